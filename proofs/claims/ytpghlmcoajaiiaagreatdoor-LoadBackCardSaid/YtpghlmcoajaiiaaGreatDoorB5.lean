/- Texts that other texts of this claim lean on, one behind the other. -/
import Derived.Test.YtpghlmcoajaiiaaGreatDoorB1
import Derived.Test.YtpghlmcoajaiiaaGreatDoorB4
import Derived.Test.YtpghlmcoajaiiaaGreatDoorB3
import Derived.Deep.RegionHeld3
import Derived.Laws.Append
import Derived.Laws.AppendOwn
set_option maxHeartbeats 20000000
set_option maxRecDepth 100000
namespace Go.Proofs.YtpghlmcoajaiiaaGreatDoor
theorem keyAt_at {α:Type} (a b:List (List UInt8×α)) (c:List UInt8×α):keyAt (a++c::b) a.length=c.1:=by simp[keyAt]
theorem kidAt_at (a b:List (List UInt8×Tr)) (c:List UInt8×Tr):kidAt (a++c::b) a.length=c.2:=by simp[kidAt]
theorem list_at {α:Type} {l:List α} {k:Nat} (h:k<l.length):∃a c b,l=a++c::b∧a.length=k:=by
 refine⟨l.take k,l[k],l.drop (k+1),?_,by simp;omega⟩;simp
theorem kids_keys {P:List UInt8→List UInt8→Tr→Prop}:∀{r:List (List UInt8×Tr)} {c:List UInt8×Tr} {lo hi:List UInt8},KidsP P lo hi (c::r)→∀d∈r,keyOk d.1
 | [],_,_,_,_,d,hd=>by cases hd
 | e::r,_,_,_,h,d,hd=>by
  rcases List.mem_cons.1 hd with rfl|hd
  ·exact h.2.1
  ·exact kids_keys h.2.2.2.2 d hd
theorem shape_kids {n:Nat} {lo hi:List UInt8} {p:Int} {l:List (List UInt8×Tr)} (h:Shape (n+1) lo hi (.node p l)):KidsP (Good n) lo hi l∧keyAt l 0=[]:=h
theorem shape_node {n:Nat} {lo hi:List UInt8} {p:Int} {l:List (List UInt8×Tr)} (h:KidsP (Good n) lo hi l) (h0:keyAt l 0=[]):Shape (n+1) lo hi (.node p l):=⟨h,h0⟩
theorem kids_good0 {lo hi:List UInt8} {l:List (List UInt8×Tr)} (h:KidsP (Good 0) lo hi l):False:=by
 match l,h with
 | [_],h=>exact h.1
 | _::_::_,h=>exact h.1.1
theorem node_cells {P:List UInt8→List UInt8→Tr→Prop} {lo hi:List UInt8} {p:Int} {l:List (List UInt8×Tr)} (h:KidsP P lo hi l) (h0:keyAt l 0=[]):∀x∈sizesT (.node p l),4≤x∧x≤20:=by
 intro x hx;obtain⟨c,hc,rfl⟩:=List.mem_map.1 hx;cases l with
 | nil=>exact absurd h (by simp[KidsP])
 | cons e r=>
  rcases List.mem_cons.1 hc with rfl|hc
  ·have:c.1=[]:=by simpa[keyAt] using h0
   rw[this];simp
  ·have:=(kids_keys h c hc).2
   omega
theorem leaf_cells {lo hi:List UInt8} {p:Int} {l:List (List UInt8×Tv)} (h:LeafOk lo hi l):∀x∈sizesT (.leaf p l),4≤x∧x≤35:=by
 intro x hx;obtain⟨c,hc,rfl⟩:=List.mem_map.1 hx;obtain⟨h1,_⟩:=h.2 c hc;have h2:=vSz_le c.2;have h3:=h1.2;have h4:0<c.1.length:=List.length_pos_iff.2 h1.1;omega
theorem shape_cells {n:Nat} {lo hi:List UInt8} {t:Tr} (h:Shape n lo hi t):∀x∈sizesT t,4≤x∧x≤35:=by
 cases n with
 | zero=>exact h.elim
 | succ n=>
  cases t with
  | leaf p l=>exact leaf_cells h.2
  | node p l=>exact fun x hx=>by have:=node_cells (shape_kids h).1 (shape_kids h).2 x hx;omega
theorem len_sum {l:List Int} (h:∀x∈l,4≤x):4*(l.length:Int)≤sumI l:=by
 exact q639ae9
theorem shape_parts {n:Nat} {lo hi:List UInt8} {t:Tr} (h:Shape n lo hi t) (hs:sumT t≤200):(atF (sizesT t)=0∧sumT t≤122) ∨
 ∃m:Nat,1≤m∧m<(sizesT t).length∧atF (sizesT t)=(m:Int)∧122<sumT t∧sumI ((sizesT t).take m)≤122∧sumI ((sizesT t).drop m)≤122∧∀c:Int,0≤c→(∀x∈sizesT t,x≤c)→sumT t-c≤2*sumI ((sizesT t).take m)∧sumT t-c≤2*sumI ((sizesT t).drop m):=by
 have h1:=shape_cells h;have h2:=len_sum (fun x hx=>(h1 x hx).1);have hs':sumI (sizesT t)≤200:=hs;exact cut_parts (by omega) (fun x hx=>by have:=h1 x hx;omega) hs'
theorem sizes_len_leaf (p:Int) (l:List (List UInt8×Tv)):(sizesT (.leaf p l)).length=l.length:=by simp[sizesT]
theorem sizes_len_node (p:Int) (l:List (List UInt8×Tr)):(sizesT (.node p l)).length=l.length:=by simp[sizesT]
theorem part_ok {n:Nat} {lo hi:List UInt8} {t:Tr} (h:Shape n lo hi t) (hs:sumT t≤200) (hat:atF (sizesT t)≠0) :
 Good n lo (partT (atF (sizesT t)).toNat t).2.2 (partT (atF (sizesT t)).toNat t).1∧keyOk (partT (atF (sizesT t)).toNat t).2.2∧lo<(partT (atF (sizesT t)).toNat t).2.2∧ltH hi (partT (atF (sizesT t)).toNat t).2.2∧Good n (partT (atF (sizesT t)).toNat t).2.2 hi (partT (atF (sizesT t)).toNat t).2.1:=by
 rcases shape_parts h hs with⟨e,_⟩|⟨m,h1,h2,h3,h4,h5,h6,h7⟩
 ·exact absurd e hat
 rw[h3,Int.toNat_natCast];cases n with
 | zero=>exact h.elim
 | succ n=>
  cases t with
  | leaf p l=>
   obtain⟨rfl,hp,hl⟩:=h;rw[sizes_len_leaf] at h2;obtain⟨a,d,b,rfl,rfl⟩:=list_at h2;have hc:=leaf_cells (p:=p) ⟨hp,hl⟩;obtain⟨g1,g2⟩:=h7 35 (by omega) (fun x hx=>(hc x hx).2);have ek:keyAt (a++d::b) a.length=d.1:=keyAt_at a b d;have et:(a++d::b).take a.length=a:=List.take_left;have ed:(a++d::b).drop a.length=d::b:=List.drop_left;have st:sumI ((sizesT (.leaf p (a++d::b))).take a.length)=sumT (.leaf 0 a):=by
    simp only[sizesT,sumT,←List.map_take,et]
   have sd:sumI ((sizesT (.leaf p (a++d::b))).drop a.length)=sumT (.leaf 0 (d::b)):=by
    simp only[sizesT,sumT,←List.map_drop,ed]
   rw[st] at h5 g1;rw[sd] at h6 g2;simp only[partT,ek,et,ed];unfold keysOf at hp;rw[List.map_append,List.map_cons,List.pairwise_append,List.pairwise_cons] at hp;obtain⟨q1,⟨q2,q3⟩,q4⟩:=hp;have hd:=hl d (by simp);have hlt:∀c∈a,c.1<d.1:=fun c hc=>q4 c.1 (List.mem_map_of_mem hc) d.1 (by simp)
   obtain⟨c0,hc0⟩:∃c0,c0∈a:=by
    cases a with
    | nil=>simp at h1
    | cons c0 r=>exact⟨c0,by simp⟩
   refine⟨⟨⟨rfl,q1,fun c hc=>?_⟩,by omega,h5⟩,hd.1,kle_lt (hl c0 (by simp[hc0])).2.1 (hlt c0 hc0),hd.2.2.1,⟨⟨rfl,?_,fun c hc=>?_⟩,by omega,h6⟩⟩
   ·have:=hl c (by simp[hc])
    exact⟨this.1,this.2.1,.inr (hlt c hc),this.2.2.2⟩
   ·exact List.pairwise_cons.2 ⟨q2,q3⟩
   ·have:=hl c (List.mem_append_right _ hc)
    refine⟨this.1,?_,this.2.2.1,this.2.2.2⟩
    rcases List.mem_cons.1 hc with rfl|hc
    ·exact klt_irrefl _
    ·exact klt_asymm (q2 c.1 (List.mem_map_of_mem hc))
  | node p l=>
   obtain⟨hk,h0⟩:=shape_kids h;rw[sizes_len_node] at h2;obtain⟨a,d,b,rfl,rfl⟩:=list_at h2;have hc:=node_cells (p:=p) hk h0;obtain⟨g1,g2⟩:=h7 20 (by omega) (fun x hx=>(hc x hx).2);have ek:keyAt (a++d::b) a.length=d.1:=keyAt_at a b d;have et:(a++d::b).take a.length=a:=List.take_left;have ed:(a++d::b).drop a.length=d::b:=List.drop_left;have st:sumI ((sizesT (.node p (a++d::b))).take a.length)=sumT (.node 0 a):=by
    simp only[sizesT,sumT,←List.map_take,et]
   have sd:sumI ((sizesT (.node p (a++d::b))).drop a.length)=sumT (.node 0 (d::b)):=by
    simp only[sizesT,sumT,←List.map_drop,ed]
   rw[st] at h5 g1;rw[sd,sum_node_cons 0 0] at h6 g2;simp only[partT,ek,et,ed,firstK];cases a with
   | nil=>simp at h1
   | cons e a=>
    obtain⟨q1,q2,q3,q4,q5⟩:=kids_split hk;have q6:=q2.2;have e0:keyAt (e::a) 0=[]:=by simpa[keyAt] using h0
    refine⟨⟨shape_node q1 e0,by omega,h5⟩,q2,q3,q4,⟨shape_node (kids_first q5) (by simp[keyAt]),?_,?_⟩⟩
    ·rw[sum_node_cons 0 0];simp;omega
    ·rw[sum_node_cons 0 0];simp;omega
theorem join_ok {n:Nat} {lo k hi:List UInt8} {s t:Tr} (hs:Shape n lo k s) (ht:Shape n k hi t) (hk:keyOk k) (hlo:lo<k) (hhi:ltH hi k) :
 Shape n lo hi (joinT k s t)∧sumT s+sumT t≤sumT (joinT k s t)∧sumT (joinT k s t)≤sumT s+sumT t+16:=by
 cases n with
 | zero=>exact hs.elim
 | succ n=>
  cases s with
  | leaf p l=>
   obtain⟨rfl,hp,hl⟩:=hs;cases t with
   | leaf q m=>
    obtain⟨_,hq,hm⟩:=ht;refine⟨⟨rfl,?_,fun c hc=>?_⟩,?_,?_⟩
    ·unfold keysOf at *
     exact q648619
    ·rcases List.mem_append.1 hc with hc|hc
     ·have:=hl c hc
      exact⟨this.1,this.2.1,hhi.of (this.2.2.1.resolve_left hk.1),this.2.2.2⟩
     ·have:=hm c hc
      exact⟨this.1,fun h=>this.2.1 (klt_trans h hlo),this.2.2.1,this.2.2.2⟩
    ·simp only[joinT];rw[sum_leaf_append 0 p q];omega
    ·simp only[joinT];rw[sum_leaf_append 0 p q];omega
   | node q m=>exact(kids_good0 (shape_kids ht).1).elim
  | node p l=>
   cases t with
   | leaf q m=>
    obtain⟨rfl,_⟩:=ht;exact(kids_good0 (shape_kids hs).1).elim
   | node q m=>
    obtain⟨h1,h0⟩:=shape_kids hs;obtain⟨g1,g0⟩:=shape_kids ht;cases l with
    | nil=>exact h1.elim
    | cons c l=>
     cases m with
     | nil=>exact g1.elim
     | cons d m=>
      have d0:d.1=[]:=by simpa[keyAt] using g0
      simp only[joinT,firstK];refine⟨shape_node (kids_glue (d:=(k,d.2)) h1 hk hlo hhi (kids_first g1)) (by simpa[keyAt] using h0),?_,?_⟩
      ·rw[sum_node_append 0 p 0,sum_node_cons 0 0 (k,d.2),sum_node_cons q 0 d,d0];simp;omega
      ·have:=hk.2
       rw[sum_node_append 0 p 0,sum_node_cons 0 0 (k,d.2),sum_node_cons q 0 d,d0];simp;omega
theorem splitT_at (a b:List (List UInt8×Tr)) (k:List UInt8) (t:Tr):splitT (a++(k,t)::b) a.length =
 if atF (sizesT t)=0 then none else some (a++((k,(partT (atF (sizesT t)).toNat t).1)::((partT (atF (sizesT t)).toNat t).2.2,(partT (atF (sizesT t)).toNat t).2.1)::b)):=by
 unfold splitT;rw[kidAt_at,keyAt_at,List.take_left];have:(a++(k,t)::b).drop (a.length+1)=b:=by
  rw[List.drop_append,List.drop_of_length_le (by omega)];simp
 rw[this]
theorem split_ok {n:Nat} {lo hi lo' hi' k:List UInt8} {a b:List (List UInt8×Tr)} {t:Tr} (hc:Ctx (Good n) lo hi a b k lo' hi') (hs:Shape n lo' hi' t) (hsum:sumT t≤200) (h30:30≤sumT t) (h0:keyAt (a++(k,t)::b) 0=[]) :
 ∃m,(splitT (a++(k,t)::b) a.length=some m∨(splitT (a++(k,t)::b) a.length=none∧m=a++(k,t)::b))∧KidsP (Good n) lo hi m∧keyAt m 0=[]∧sumT (.node 0 m)≤sumT (.node 0 (a++(k,t)::b))+20∧(a++(k,t)::b).length≤m.length∧(splitT (a++(k,t)::b) a.length=none→atF (sizesT t)=0):=by
 rw[splitT_at]
 by_cases hat:atF (sizesT t)=0
 ·rw[if_pos hat]
  rcases shape_parts hs hsum with⟨_,h1⟩|⟨m,h1,_,h3,_⟩
  ·refine⟨_,.inr ⟨rfl,rfl⟩,?_,h0,by omega,Nat.le_refl _,fun _=>hat⟩
   have:=kids_plug (m:=[]) hc (t:=t) ⟨hs,h30,h1⟩;simpa using this
  ·omega
 ·rw[if_neg hat]
  obtain⟨p1,p2,p3,p4,p5⟩:=part_ok hs hsum hat;refine⟨_,.inl rfl,?_,?_,?_,by simp,fun h=>by cases h⟩
  ·have:=kids_plug (m:=[((partT (atF (sizesT t)).toNat t).2.2,(partT (atF (sizesT t)).toNat t).2.1)]) hc (t:=(partT (atF (sizesT t)).toNat t).1) ⟨p1,p2,p3,p4,p5⟩
   simpa using this
  ·cases a<;>simpa[keyAt] using h0
  ·have:=p2.2
   rw[sum_node_append 0 0 0,sum_node_cons 0 0,sum_node_cons 0 0,sum_node_append 0 0 0 a,sum_node_cons 0 0];simp only;omega
theorem good_len {n:Nat} {lo hi:List UInt8} {p:Int} {l:List (List UInt8×Tr)} (h:Good n lo hi (.node p l)):2≤l.length:=by
 cases n with
 | zero=>exact h.1.elim
 | succ n=>
  have h0:=(shape_kids h.1).2;have h1:=h.2.1
  match l,h0,h1,kids_ne (shape_kids h.1).1 with
  | [c],h0,h1,_=>
   have:c.1=[]:=by simpa[keyAt] using h0
   rw[sum_node_cons p p,sum_node_nil,this] at h1;simp at h1
  | _::_::_,_,_,_=>simp
theorem ctx_right {P:List UInt8→List UInt8→Tr→Prop} {lo hi lo' hi' k:List UInt8} {a r:List (List UInt8×Tr)} {d:List UInt8×Tr} (hc:Ctx P lo hi a (d::r) k lo' hi'):∃hi'',Ctx P lo hi a r k lo' hi''∧P d.1 hi'' d.2∧hi'=d.1∧keyOk d.1∧lo'<d.1∧ltH hi'' d.1:=by
 obtain⟨h1,h2,h3⟩:=hc
 rcases h2 with⟨h,_⟩|⟨d',r',e,rfl,g1,g2,g3⟩
 ·cases h
 cases e;obtain⟨lo'',hi'',hq,hp⟩:=kids_focus (a:=[]) (c:=d) (b:=r) g3;obtain⟨q1,q2,q3⟩:=hq;obtain rfl:lo''=d.1:=by
  rcases q1 with⟨_,e⟩|⟨e,_⟩
  ·exact e
  ·exact absurd rfl e
 have hlt:lo'<d.1:=(h3 (.inr (by simp))).resolve_left g1.1;have hd:ltH hi'' d.1:=by
  rcases q2 with⟨rfl,rfl⟩|⟨d2,r2,rfl,rfl,e1,e2,e3⟩
  ·exact g2
  ·exact q3 (.inr (by simp))
 exact⟨hi'',⟨h1,q2,fun _=>hd.of hlt⟩,hp,rfl,g1,hlt,hd⟩
theorem ctx_left {P:List UInt8→List UInt8→Tr→Prop} {lo hi lo' hi' k:List UInt8} {a:List (List UInt8×Tr)} {e:List UInt8×Tr} (hc:Ctx P lo hi (a++[e]) [] k lo' hi'):∃lo'',Ctx P lo hi a [] e.1 lo'' hi∧P lo'' k e.2∧hi'=hi∧lo'=k∧keyOk k∧lo''<k∧ltH hi k:=by
 obtain⟨h1,h2,h3⟩:=hc
 rcases h1 with⟨h,_⟩|⟨_,g1,g2,g3,rfl⟩
 ·simp at h
 obtain rfl:hi'=hi:=by
  rcases h2 with⟨_,e⟩|⟨d,r,e,_⟩
  ·exact e
  ·cases e
 obtain⟨lo'',hi'',hq,hp⟩:=kids_focus g1;obtain⟨q1,q2,q3⟩:=hq;obtain rfl:hi''=lo':=by
  rcases q2 with⟨_,e⟩|⟨d,r,e,_⟩
  ·exact e
  ·cases e
 have hhi:ltH hi' hi'':=h3 (.inl (by simp));have hlt:lo''<hi'':=by
  rcases q1 with⟨rfl,rfl⟩|⟨ha,_,_,_,rfl⟩
  ·exact g3
  ·exact(q3 (.inl ha)).resolve_left g2.1
 exact⟨lo'',⟨q1,.inl ⟨rfl,rfl⟩,fun _=>hhi.of hlt⟩,hp,rfl,rfl,g2,hlt,hhi⟩
theorem joined_right (a r:List (List UInt8×Tr)) (c d:List UInt8×Tr):joined (a++c::d::r) a.length=a++(c.1,joinT d.1 c.2 d.2)::r:=by
 unfold joined;have e1:a++c::d::r=(a++[c])++d::r:=by simp
 have k1:keyAt (a++c::d::r) (a.length+1)=d.1:=by rw[e1];have:=keyAt_at (a++[c]) r d;simpa using this
 have k2:kidAt (a++c::d::r) (a.length+1)=d.2:=by rw[e1];have:=kidAt_at (a++[c]) r d;simpa using this
 rw[keyAt_at,kidAt_at,k1,k2,List.take_left];have:(a++c::d::r).drop (a.length+2)=r:=by rw[List.drop_append,List.drop_of_length_le (by omega)];simp
 rw[this]
theorem mend_ok {n:Nat} {lo hi lo' hi' k:List UInt8} {a b:List (List UInt8×Tr)} {t:Tr} {p:Int} (hc:Ctx (Good n) lo hi a b k lo' hi') (hs:Shape n lo' hi' t) (hsum:sumT t≤160) (h0:keyAt (a++(k,t)::b) 0=[]) (hex:30≤sumT t∨a≠[]∨b≠[]) :
 ∃q m,mendT p (a++(k,t)::b) a.length=.node q m∧KidsP (Good n) lo hi m∧keyAt m 0=[]∧sumT (.node 0 m)≤sumT (.node 0 (a++(k,t)::b))+20∧(a++(k,t)::b).length≤m.length+1:=by
 by_cases hlow:30≤sumT t
 ·obtain⟨m,h1,h2,h3,h4,h5,_⟩:=split_ok hc hs (by omega) hlow h0
  unfold mendT
  rcases h1 with h1|⟨h1,rfl⟩
  ·rw[h1];exact⟨0,m,rfl,h2,h3,h4,by omega⟩
  ·have hl:lowT (kidAt (a++(k,t)::b) a.length)=false:=by rw[kidAt_at];simp[lowT];omega
   rw[h1];simp only;rw[if_pos (.inl hl)];exact⟨p,_,rfl,h2,h3,by omega,by omega⟩
 ·have hl:lowT (kidAt (a++(k,t)::b) a.length)=true:=by rw[kidAt_at];simp[lowT];omega
  have hsn:splitT (a++(k,t)::b) a.length=none:=by
   rw[splitT_at]
   rcases shape_parts hs (by omega) with⟨e,_⟩|⟨m,_,_,_,h4,_⟩
   ·rw[if_pos e]
   ·omega
  unfold mendT;rw[hsn];simp only;cases b with
  | cons d r=>
   rw[if_neg (by rw[hl];simp;omega)];have hj:joinAt (a++(k,t)::d::r).length a.length=a.length:=by unfold joinAt;simp
   rw[hj,joined_right];dsimp only;obtain⟨hi'',hc2,hg,rfl,hkd,hlo,hhi⟩:=ctx_right hc;obtain⟨j1,j2,j3⟩:=join_ok hs hg.1 hkd hlo hhi;have hg2:=hg.2;have hnn:=sumT_nonneg t;obtain⟨m,e1,e2,e3,e4,e5,_⟩:=split_ok hc2 j1 (by omega) (by omega) (by cases a<;>simpa[keyAt] using h0);have hd4:sumT (.node 0 (a++(k,joinT d.1 t d.2)::r))≤sumT (.node 0 (a++(k,t)::d::r)):=by
    rw[sum_node_append 0 0 0,sum_node_cons 0 0,sum_node_append 0 0 0 a,sum_node_cons 0 0,sum_node_cons 0 0 d];simp only;omega
   exact q857c04
  | nil=>
   rcases List.eq_nil_or_concat a with rfl|⟨a',e,rfl⟩
   ·simp at hex;omega
   ·rw[if_neg (by rw[hl];simp)]
    have hj:joinAt (a'.concat e++[(k,t)]).length (a'.concat e).length=a'.length:=by unfold joinAt;simp
    have el:a'.concat e++[(k,t)]=a'++e::(k,t)::[]:=by simp
    rw[hj,el,joined_right];dsimp only;rw[List.concat_eq_append] at hc;obtain⟨lo'',hc2,hg,rfl,rfl,hkd,hlo,hhi⟩:=ctx_left hc;obtain⟨j1,j2,j3⟩:=join_ok hg.1 hs hkd hlo hhi;have hg2:=hg.2;have hnn:=sumT_nonneg t;obtain⟨m,e1,e2,e3,e4,e5,_⟩:=split_ok hc2 j1 (by omega) (by omega) (by rw[el] at h0;cases a'<;>simpa[keyAt] using h0);have hd4:sumT (.node 0 (a'++(e.1,joinT lo' e.2 t)::[]))≤sumT (.node 0 (a'++e::(lo',t)::[])):=by
     rw[sum_node_append 0 0 0,sum_node_cons 0 0,sum_node_append 0 0 0 a',sum_node_cons 0 0 e,sum_node_cons 0 0 (lo',t)];simp only;omega
    exact q857c04
theorem putL_mem {key:List UInt8} {v:Tv}:∀{l:List (List UInt8×Tv)} {c:List UInt8×Tv},c∈putL key v l→c=(key,v)∨c∈l
 | [],c,h=>by simp[putL] at h;exact .inl h
 | d::r,c,h=>by
  unfold putL at h
  split at h
  ·rcases List.mem_cons.1 h with rfl|h
   ·exact .inr (by simp)
   ·exact(putL_mem h).imp id (fun h=>by simp[h])
  ·split at h
   ·rcases List.mem_cons.1 h with rfl|h
    ·exact .inl rfl
    ·exact .inr (by simp[h])
   ·rcases List.mem_cons.1 h with rfl|h
    ·exact .inl rfl
    ·exact .inr h
theorem putL_sorted {key:List UInt8} {v:Tv}:∀{l:List (List UInt8×Tv)},(keysOf l).Pairwise (fun a b=>a<b)→(keysOf (putL key v l)).Pairwise (fun a b=>a<b)
 | [],_=>by simp[putL,keysOf]
 | d::r,h=>by
  unfold keysOf at h;rw[List.map_cons,List.pairwise_cons] at h;obtain⟨h1,h2⟩:=h;unfold putL
  split
  ·rename_i hlt
   unfold keysOf;rw[List.map_cons,List.pairwise_cons];refine⟨fun x hx=>?_,putL_sorted h2⟩;obtain⟨c,hc,rfl⟩:=List.mem_map.1 hx
   rcases putL_mem hc with rfl|hc
   ·exact hlt
   ·exact h1 c.1 (List.mem_map_of_mem hc)
  ·rename_i hlt
   split
   ·rename_i he
    unfold keysOf;rw[List.map_cons,List.pairwise_cons];exact⟨fun x hx=>he ▸ h1 x hx,h2⟩
   ·rename_i he
    have hk:key<d.1:=by
     rcases ktri d.1 key with h|h|h
     ·exact absurd h hlt
     ·exact absurd h he
     ·exact h
    unfold keysOf;rw[List.map_cons,List.map_cons,List.pairwise_cons,List.pairwise_cons];refine⟨fun x hx=>?_,h1,h2⟩
    rcases List.mem_cons.1 hx with rfl|hx
    ·exact hk
    ·exact klt_trans hk (h1 x hx)
theorem putL_sum {key:List UInt8} {v:Tv} (hk:key.length≤16):∀(l:List (List UInt8×Tv)),sumT (.leaf 0 (putL key v l))≤sumT (.leaf 0 l)+35∧0<(putL key v l).length
 | []=>by
  have:=vSz_le v;unfold putL;rw[sum_leaf_cons 0 0];simp[sum_leaf,sumI_nil];omega
 | d::r=>by
  have:=vSz_le v;have ih:=putL_sum hk r (v:=v);unfold putL
  split
  ·rw[sum_leaf_cons 0 0,sum_leaf_cons 0 0 d];simp;omega
  ·split
   ·rw[sum_leaf_cons 0 0,sum_leaf_cons 0 0 d];simp;omega
   ·rw[sum_leaf_cons 0 0];simp;omega
theorem putL_ok {lo hi key:List UInt8} {v:Tv} {l:List (List UInt8×Tv)} (h:LeafOk lo hi l) (hk:keyOk key) (hlo:¬key<lo) (hhi:ltH hi key) (hv:valOk v):LeafOk lo hi (putL key v l):=
 ⟨putL_sorted h.1,fun c hc=>by
  rcases putL_mem hc with rfl|hc
  ·exact⟨hk,hlo,hhi,hv⟩
  ·exact h.2 c hc⟩
theorem wayD_spec (ks:List (List UInt8)) (key:List UInt8):∀n,wayD ks key n≤n∧(wayD ks key n=0∨¬key<ks[wayD ks key n]?.getD [])∧∀i,wayD ks key n<i→i≤n→key<ks[i]?.getD []
 | 0=>⟨Nat.le_refl _,.inl rfl,fun i h1 h2=>by simp[wayD] at h1;omega⟩
 | n+1=>by
  obtain⟨h1,h2,h3⟩:=wayD_spec ks key n;unfold wayD
  split
  ·rename_i h
   refine⟨by omega,h2,fun i a b=>?_⟩
   by_cases e:i=n+1
   ·subst e;exact h
   ·exact h3 i a (by omega)
  ·rename_i h
   exact⟨Nat.le_refl _,.inr h,fun i a b=>by omega⟩
theorem wayF_spec {ks:List (List UInt8)} {key:List UInt8} (h:ks≠[]):wayF ks key<ks.length∧(wayF ks key=0∨¬key<ks[wayF ks key]?.getD [])∧∀i,wayF ks key<i→i<ks.length→key<ks[i]?.getD []:=by
 obtain⟨h1,h2,h3⟩:=wayD_spec ks key (ks.length-1);have:=List.length_pos_iff.2 h;exact⟨by unfold wayF;omega,h2,fun i a b=>h3 i a (by omega)⟩
theorem way_focus {P:List UInt8→List UInt8→Tr→Prop} {lo hi key:List UInt8} {l:List (List UInt8×Tr)} (h:KidsP P lo hi l) (hlo:¬key<lo) (hhi:ltH hi key) :
 ∃a c b lo' hi',l=a++c::b∧a.length=wayF (keysOf l) key∧Ctx P lo hi a b c.1 lo' hi'∧P lo' hi' c.2∧¬key<lo'∧ltH hi' key:=by
 have hne:=kids_ne h;have hk:keysOf l≠[]:=by intro e;apply hne;unfold keysOf at e;simpa using e
 obtain⟨h1,h2,h3⟩:=wayF_spec (key:=key) hk;have hlen:(keysOf l).length=l.length:=by simp[keysOf]
 obtain⟨a,c,b,e,hal⟩:=list_at (l:=l) (k:=wayF (keysOf l) key) (by omega);rw[←hal] at h2 h3;rw[e] at h h2 h3 hlen;obtain⟨lo',hi',hc,hp⟩:=kids_focus h;refine⟨a,c,b,lo',hi',e,hal,hc,hp,?_,?_⟩
 ·obtain⟨q1,_,_⟩:=hc
  rcases q1 with⟨rfl,rfl⟩|⟨ha,_,_,_,rfl⟩
  ·exact hlo
  ·rcases h2 with h2|h2
   ·exact absurd (List.length_eq_zero_iff.1 h2) ha
   ·simpa[keysOf] using h2
 ·obtain⟨_,q2,_⟩:=hc
  rcases q2 with⟨rfl,rfl⟩|⟨d,r,rfl,rfl,e1,e2,e3⟩
  ·exact hhi
  ·right
   have:=h3 (a.length+1) (by omega) (by rw[hlen];simp);simpa[keysOf,List.getElem?_append_right] using this
theorem put_ok:∀{n:Nat} {lo hi key:List UInt8} {v:Tv} {t:Tr},Shape n lo hi t→sumT t≤122→(∀p l,t=.node p l→2≤l.length)→keyOk key→¬key<lo→ltH hi key→valOk v →
 Shape n lo hi (putT n t key v)∧sumT (putT n t key v)≤160∧(∀p l,putT n t key v=.leaf p l→0<l.length)
 | 0,_,_,_,_,_,h,_,_,_,_,_,_=>h.elim
 | n+1,lo,hi,key,v,.leaf p l,h,hs,_,hk,hlo,hhi,hv=>by
  obtain⟨rfl,hl⟩:=h;have h1:=putL_sum hk.2 l (v:=v);have h2:sumT (.leaf 0 l)=sumT (.leaf p l):=rfl;exact⟨⟨rfl,putL_ok hl hk hlo hhi hv⟩,by unfold putT;omega,fun q m e=>by cases e;exact h1.2⟩
 | n+1,lo,hi,key,v,.node p l,h,hs,h2,hk,hlo,hhi,hv=>by
  obtain⟨h1,h0⟩:=shape_kids h;have hl2:=h2 p l rfl;obtain⟨a,c,b,lo',hi',e,hal,hc,hp,g1,g2⟩:=way_focus h1 hlo hhi;obtain⟨i1,i2,i3⟩:=put_ok hp.1 hp.2.2 (fun q m e=>good_len (p:=q) (by rw[←e];exact hp)) hk g1 g2 hv;have hset:l.set (wayF (keysOf l) key) (keyAt l (wayF (keysOf l) key),putT n (kidAt l (wayF (keysOf l) key)) key v)=a++(c.1,putT n c.2 key v)::b:=by
   rw[←hal]
   conv=>lhs;rw[e]
   rw[keyAt_at,kidAt_at,List.set_append_right _ _ (Nat.le_refl _),Nat.sub_self,List.set_cons_zero]
  have hput:putT (n+1) (.node p l) key v=mendT 0 (a++(c.1,putT n c.2 key v)::b) a.length:=by
   show mendT 0 _ _=_;rw[hset,hal]
  have hab:a≠[]∨b≠[]:=by
   rw[e] at hl2;cases a with
   | nil=>cases b with
    | nil=>simp at hl2
    | cons=>exact .inr (by simp)
   | cons=>exact .inl (by simp)
  have hk0:keyAt (a++(c.1,putT n c.2 key v)::b) 0=[]:=by
   rw[e] at h0;cases a<;>simpa[keyAt] using h0
  obtain⟨q,m,e1,e2,e3,e4,e5⟩:=mend_ok (p:=0) hc i1 i2 hk0 (.inr hab);rw[hput,e1];have hsm:sumT (.node 0 (a++(c.1,putT n c.2 key v)::b))=sumT (.node p l):=by
   rw[e,sum_node_append 0 0 0,sum_node_cons 0 0,sum_node_append p 0 0,sum_node_cons 0 0 c]
  have hq:sumT (.node q m)=sumT (.node 0 m):=rfl;exact⟨shape_node e2 e3,by omega,fun p' l' e=>by cases e⟩
def Root (n:Nat) (t:Tr):Prop:=Shape n [] [] t∧sumT t≤122∧(∀p l,t=.node p l→2≤l.length)
theorem root_empty:Root 1 (.leaf 0 []):=⟨⟨rfl,by simp[keysOf],fun c hc=>by cases hc⟩,by decide,fun p l e=>by cases e⟩
theorem ltH_nil (k:List UInt8):ltH [] k:=.inl rfl
theorem part_two {t:Tr} (hat:atF (sizesT t)≠0):mendT 0 [([],t)] 0=.node 0 [([],(partT (atF (sizesT t)).toNat t).1),((partT (atF (sizesT t)).toNat t).2.2,(partT (atF (sizesT t)).toNat t).2.1)]:=by
 have:=splitT_at [] [] [] t;rw[if_neg hat] at this;unfold mendT;simp only[List.nil_append,List.length_nil] at this;rw[this]
theorem root_two {n:Nat} {t:Tr} (hs:Shape n [] [] t) (hsum:sumT t≤200) (hat:atF (sizesT t)≠0):Root (n+1) (mendT 0 [([],t)] 0):=by
 obtain⟨p1,p2,p3,p4,p5⟩:=part_ok hs hsum hat;rw[part_two hat];refine⟨shape_node ⟨p1,p2,p3,p4,p5⟩ rfl,?_,fun p l e=>by cases e;simp⟩;have:=p2.2;rw[sum_node_cons 0 0,sum_node_cons 0 0,sum_node_nil];simp;omega
theorem top_ok:∀{n N:Nat} {t:Tr},Shape n [] [] t→sumT t≤200→n≤N→∃m,m≤n+1∧Root m (topT N t)
 | 0,_,_,h,_,_=>h.elim
 | n+1,0,_,_,_,h=>by omega
 | n+1,N+1,.leaf p l,h,hs,hN=>by
  unfold topT
  by_cases hat:atF (sizesT (.leaf p l))=0
  ·rw[if_pos hat]
   rcases shape_parts h hs with⟨_,h1⟩|⟨m,h1,_,h3,_⟩
   ·exact⟨n+1,by omega,h,h1,fun q m e=>by cases e⟩
   ·omega
  ·rw[if_neg hat]
   exact⟨n+2,by omega,root_two h hs hat⟩
 | n+1,N+1,.node p l,h,hs,hN=>by
  unfold topT
  by_cases h1:l.length=1
  ·rw[if_pos h1]
   obtain⟨hk,h0⟩:=shape_kids h;obtain⟨c,rfl⟩:=List.length_eq_one_iff.1 h1;have hg:Good n [] [] c.2:=hk;obtain⟨m,e1,e2⟩:=top_ok (N:=N) hg.1 (by have:=hg.2.2;omega) (by omega);exact⟨m,by omega,by simpa[kidAt] using e2⟩
  ·rw[if_neg h1]
   by_cases hat:atF (sizesT (.node p l))=0
   ·rw[if_pos hat]
    rcases shape_parts h hs with⟨_,h2⟩|⟨m,h2,_,h3,_⟩
    ·refine⟨n+1,by omega,h,h2,fun q m e=>?_⟩
     cases e;have:=kids_ne (shape_kids h).1;have:=List.length_pos_iff.2 this;omega
    ·omega
   ·rw[if_neg hat]
    exact⟨n+2,by omega,root_two h hs hat⟩
def entsK (n:Nat) (l:List (List UInt8×Tr)):List (List UInt8×Tv):=l.flatMap fun c=>entsT n c.2
theorem ents_node (n:Nat) (p:Int) (l:List (List UInt8×Tr)):entsT (n+1) (.node p l)=entsK n l:=rfl
theorem ents_leaf (n:Nat) (p:Int) (l:List (List UInt8×Tv)):entsT (n+1) (.leaf p l)=l:=rfl
theorem entsK_append (n:Nat) (a b:List (List UInt8×Tr)):entsK n (a++b)=entsK n a++entsK n b:=by simp[entsK]
theorem entsK_cons (n:Nat) (c:List UInt8×Tr) (b:List (List UInt8×Tr)):entsK n (c::b)=entsT n c.2++entsK n b:=by simp[entsK]
theorem entsK_first (n:Nat) (k:List UInt8) (l:List (List UInt8×Tr)):entsK n (firstK k l)=entsK n l:=by cases l<;>simp[firstK,entsK]
theorem ents_part (n m:Nat) (t:Tr):entsT (n+1) (partT m t).1++entsT (n+1) (partT m t).2.1=entsT (n+1) t:=by
 cases t with
 | leaf p l=>simp only[partT,ents_leaf,List.take_append_drop]
 | node p l=>simp only[partT,ents_node,entsK_first,←entsK_append,List.take_append_drop]
theorem ents_join {n:Nat} {k:List UInt8} {s t:Tr} (h:s.isLeaf=t.isLeaf):entsT (n+1) (joinT k s t)=entsT (n+1) s++entsT (n+1) t:=by
 cases s<;>cases t<;>simp only[Tr.isLeaf] at h
 ·simp only[joinT,ents_leaf]
 ·cases h
 ·cases h
 ·simp only[joinT,ents_node,entsK_first,entsK_append]
theorem shape_kind {n:Nat} {lo hi:List UInt8} {t:Tr} (h:Shape n lo hi t):t.isLeaf=decide (n=1):=by
 cases n with
 | zero=>exact h.elim
 | succ n=>
  cases t with
  | leaf p l=>obtain⟨rfl,_⟩:=h;rfl
  | node p l=>
   cases n with
   | zero=>exact(kids_good0 (shape_kids h).1).elim
   | succ n=>simp[Tr.isLeaf]
theorem ents_split {n:Nat} {a b:List (List UInt8×Tr)} {k:List UInt8} {t:Tr} {m:List (List UInt8×Tr)} (h:splitT (a++(k,t)::b) a.length=some m):entsK (n+1) m=entsK (n+1) (a++(k,t)::b):=by
 rw[splitT_at] at h
 split at h
 ·cases h
 ·cases h
  have:=ents_part n (atF (sizesT t)).toNat t;rw[entsK_append,entsK_cons,entsK_cons,entsK_append,entsK_cons,←List.append_assoc (entsT (n+1) _),this]
theorem ents_mend {n:Nat} {p:Int} {a b:List (List UInt8×Tr)} {k:List UInt8} {t:Tr} (h:∀c∈a++(k,t)::b,c.2.isLeaf=t.isLeaf):entsT (n+2) (mendT p (a++(k,t)::b) a.length)=entsK (n+1) (a++(k,t)::b):=by
 unfold mendT;cases hs:splitT (a++(k,t)::b) a.length with
 | some m=>exact ents_split hs
 | none=>
  simp only
  split
  ·rfl
  ·rename_i hc
   simp only[not_or] at hc;have two:∀(a b:List (List UInt8×Tr)) (c d:List UInt8×Tr),c.2.isLeaf=d.2.isLeaf →
    entsT (n+2) (match splitT (joined (a++c::d::b) a.length) a.length with|some m=>.node 0 m|none=>.node 0 (joined (a++c::d::b) a.length))=entsK (n+1) (a++c::d::b):=by
    intro a b c d hcd;rw[joined_right];have hj:entsK (n+1) (a++(c.1,joinT d.1 c.2 d.2)::b)=entsK (n+1) (a++c::d::b):=by
     rw[entsK_append,entsK_cons,entsK_append,entsK_cons,entsK_cons,ents_join hcd,List.append_assoc]
    cases hs2:splitT (a++(c.1,joinT d.1 c.2 d.2)::b) a.length with
    | some m=>simp only;rw[ents_node,ents_split hs2,hj]
    | none=>simp only;rw[ents_node,hj]
   cases b with
   | cons d r=>
    have hj:joinAt (a++(k,t)::d::r).length a.length=a.length:=by unfold joinAt;simp
    rw[hj];exact two a r (k,t) d (h d (by simp)).symm
   | nil=>
    rcases List.eq_nil_or_concat a with rfl|⟨a',e,rfl⟩
    ·simp at hc
    ·have hj:joinAt (a'.concat e++[(k,t)]).length (a'.concat e).length=a'.length:=by unfold joinAt;simp
     have el:a'.concat e++[(k,t)]=a'++e::(k,t)::[]:=by simp
     rw[hj,el];exact two a' [] e (k,t) (h e (by simp))
theorem kids_kind {n:Nat}:∀{l:List (List UInt8×Tr)} {lo hi:List UInt8},KidsP (Good n) lo hi l→∀c∈l,c.2.isLeaf=decide (n=1)
 | [d],_,_,h,c,hc=>by simp at hc;subst hc;exact shape_kind h.1
 | d::e::r,_,_,h,c,hc=>by
  rcases List.mem_cons.1 hc with rfl|hc
  ·exact shape_kind h.1.1
  ·exact kids_kind h.2.2.2.2 c hc
theorem putL_ahead {key:List UInt8} {v:Tv} {B:List (List UInt8×Tv)}:∀{A:List (List UInt8×Tv)},(∀c∈A,c.1<key)→putL key v (A++B)=A++putL key v B
 | [],_=>rfl
 | c::A,h=>by
  show(if c.1<key then c::putL key v (A++B) else _)=_;rw[if_pos (h c (by simp)),putL_ahead (fun d hd=>h d (by simp[hd]))];rfl
theorem putL_behind {key:List UInt8} {v:Tv} {C:List (List UInt8×Tv)} (hC:∀c∈C,key<c.1):∀{B:List (List UInt8×Tv)},putL key v (B++C)=putL key v B++C
 | []=>by
  cases C with
  | nil=>rfl
  | cons d C=>
   have:=hC d (by simp);show(if d.1<key then _ else if d.1=key then _ else _)=_;rw[if_neg (klt_asymm this),if_neg (fun e=>klt_irrefl key (by rw[e] at this;exact this))];rfl
 | c::B=>by
  show(if c.1<key then c::putL key v (B++C) else if c.1=key then (key,v)::(B++C) else (key,v)::c::(B++C))=(if c.1<key then c::putL key v B else if c.1=key then (key,v)::B else (key,v)::c::B)++C
  split
  ·rw[putL_behind hC];rfl
  ·split<;>rfl
theorem ents_glue {lo k hi:List UInt8} {l m:List (List UInt8×Tv)} (h:LeafOk lo k l) (g:LeafOk k hi m) (hk:keyOk k) (hlo:lo<k) (hhi:ltH hi k):LeafOk lo hi (l++m):=by
 obtain⟨hp,hl⟩:=h;obtain⟨hq,hm⟩:=g;refine⟨?_,fun c hc=>?_⟩
 ·unfold keysOf at *
  exact q648619
 ·rcases List.mem_append.1 hc with hc|hc
  ·have:=hl c hc
   exact⟨this.1,this.2.1,hhi.of (this.2.2.1.resolve_left hk.1),this.2.2.2⟩
  ·have:=hm c hc
   exact⟨this.1,fun h=>this.2.1 (klt_trans h hlo),this.2.2.1,this.2.2.2⟩
theorem kids_ents {n:Nat} (ih:∀{lo hi:List UInt8} {t:Tr},Shape n lo hi t→LeafOk lo hi (entsT n t)):∀{l:List (List UInt8×Tr)} {lo hi:List UInt8},KidsP (Good n) lo hi l→LeafOk lo hi (entsK n l)
 | [c],lo,hi,h=>by rw[entsK_cons];simpa[entsK] using ih h.1
 | c::d::r,lo,hi,h=>by
  rw[entsK_cons];exact ents_glue (ih h.1.1) (kids_ents ih h.2.2.2.2) h.2.1 h.2.2.1 h.2.2.2.1
theorem shape_ents:∀{n:Nat} {lo hi:List UInt8} {t:Tr},Shape n lo hi t→LeafOk lo hi (entsT n t)
 | 0,_,_,_,h=>h.elim
 | _+1,_,_,.leaf _p _l,h=>h.2
 | _n+1,_lo,_hi,.node _p _l,h=>kids_ents (fun h=>shape_ents h) (shape_kids h).1
theorem ents_put:∀{n:Nat} {lo hi key:List UInt8} {v:Tv} {t:Tr},Shape n lo hi t→keyOk key→¬key<lo→ltH hi key→valOk v→sumT t≤122→(∀p l,t=.node p l→2≤l.length)→entsT n (putT n t key v)=putL key v (entsT n t)
 | 0,_,_,_,_,_,h,_,_,_,_,_,_=>h.elim
 | n+1,lo,hi,key,v,.leaf p l,h,_,_,_,_,_,_=>rfl
 | n+1,lo,hi,key,v,.node p l,h,hk,hlo,hhi,hv,hsm,h2=>by
  obtain⟨h1,h0⟩:=shape_kids h;obtain⟨a,c,b,lo',hi',e,hal,hc,hp,g1,g2⟩:=way_focus h1 hlo hhi;have hl2:=h2 p l rfl;have ih:=ents_put hp.1 hk g1 g2 hv hp.2.2 (fun q m e=>good_len (p:=q) (by rw[←e];exact hp));obtain⟨i1,i2,i3⟩:=put_ok hp.1 hp.2.2 (fun q m e=>good_len (p:=q) (by rw[←e];exact hp)) hk g1 g2 hv;have hset:l.set (wayF (keysOf l) key) (keyAt l (wayF (keysOf l) key),putT n (kidAt l (wayF (keysOf l) key)) key v)=a++(c.1,putT n c.2 key v)::b:=by
   rw[←hal]
   conv=>lhs;rw[e]
   rw[keyAt_at,kidAt_at,List.set_append_right _ _ (Nat.le_refl _),Nat.sub_self,List.set_cons_zero]
  have hput:putT (n+1) (.node p l) key v=mendT 0 (a++(c.1,putT n c.2 key v)::b) a.length:=by
   show mendT 0 _ _=_;rw[hset,hal]
  rw[hput];have hkind:=kids_kind h1;cases n with
  | zero=>exact hp.1.elim
  | succ n=>
   rw[ents_mend (by
    intro d hd;have ht:(putT (n+1) c.2 key v).isLeaf=decide (n+1=1):=shape_kind i1;rw[ht]
    rcases List.mem_append.1 hd with hd|hd
    ·exact hkind d (by rw[e];simp[hd])
    ·rcases List.mem_cons.1 hd with rfl|hd
     ·exact ht
     ·exact hkind d (by rw[e];simp[hd]))]
   rw[ents_node,e,entsK_append,entsK_cons,entsK_append,entsK_cons,ih];obtain⟨q1,q2,q3⟩:=hc;have hA:∀d∈entsK (n+1) a,d.1<key:=by
    rcases q1 with⟨rfl,_⟩|⟨ha,e1,e2,e3,rfl⟩
    ·intro d hd;simp[entsK] at hd
    ·intro d hd
     have:=(kids_ents (fun h=>shape_ents h) e1).2 d hd;exact klt_le (this.2.2.1.resolve_left e2.1) g1
   have hB:∀d∈entsK (n+1) b,key<d.1:=by
    rcases q2 with⟨rfl,_⟩|⟨d,r,rfl,rfl,e1,e2,e3⟩
    ·intro d hd;simp[entsK] at hd
    ·intro d' hd
     have:=(kids_ents (fun h=>shape_ents h) e3).2 d' hd;exact klt_le (g2.resolve_left e1.1) this.2.1
   rw[putL_ahead hA,putL_behind hB]
def posK (key:List UInt8):List (List UInt8)→Nat
 | []=>0
 | k::r=>if k<key then posK key r+1 else 0
theorem posK_le (key:List UInt8):∀l,posK key l≤l.length
 | []=>Nat.le_refl _
 | k::r=>by unfold posK;split<;>simp;exact posK_le key r
theorem posK_lt {key:List UInt8}:∀{l:List (List UInt8)} {i:Nat},i<posK key l→l[i]?.getD []<key
 | [],i,h=>by simp[posK] at h
 | k::r,i,h=>by
  unfold posK at h
  split at h
  ·rename_i hk
   cases i with
   | zero=>simpa using hk
   | succ i=>simpa using posK_lt (l:=r) (i:=i) (by omega)
  ·omega
theorem posK_at {key:List UInt8}:∀{l:List (List UInt8)},posK key l<l.length→¬l[posK key l]?.getD []<key
 | [],h=>by simp at h
 | k::r,h=>by
  unfold posK at h ⊢
  split
  ·rename_i hk
   rw[if_pos hk] at h;simpa using posK_at (l:=r) (by simpa using h)
  ·rename_i hk
   simpa using hk
def hasK (key:List UInt8) (l:List (List UInt8)):Bool:=l[posK key l]? == some key
theorem putL_pos (key:List UInt8) (v:Tv):∀l:List (List UInt8×Tv),putL key v l=l.take (posK key (keysOf l))++(key,v)::l.drop (posK key (keysOf l)+(if hasK key (keysOf l) then 1 else 0))
 | []=>by simp[putL,posK,keysOf]
 | c::r=>by
  have ih:=putL_pos key v r;unfold putL
  by_cases h:c.1<key
  ·have e1:posK key (keysOf (c::r))=posK key (keysOf r)+1:=by
    show(if c.1<key then _ else _)=_;rw[if_pos h];rfl
   have e2:hasK key (keysOf (c::r))=hasK key (keysOf r):=by
    unfold hasK;rw[e1];simp[keysOf]
   rw[if_pos h,e1,e2,ih,List.take_succ_cons,show posK key (keysOf r)+1+(if hasK key (keysOf r)=true then 1 else 0)=(posK key (keysOf r)+(if hasK key (keysOf r)=true then 1 else 0))+1 by omega,List.drop_succ_cons]
   rfl
  ·have e1:posK key (keysOf (c::r))=0:=by
    show(if c.1<key then _ else _)=_;rw[if_neg h]
   rw[if_neg h,e1]
   by_cases he:c.1=key
   ·have e2:hasK key (keysOf (c::r))=true:=by
     unfold hasK;rw[e1];simp[keysOf,he]
    rw[if_pos he,e2];simp
   ·have e2:hasK key (keysOf (c::r))=false:=by
     unfold hasK;rw[e1];simp[keysOf,he]
    rw[if_neg he,e2];simp
def fitAt (lo hi:List UInt8) (leaf:Bool) (ks:List (List UInt8)) (i:Nat):Bool:=
 ((i == 0 && !leaf) == (ks[i]?.getD [] == [])) && (decide ((ks[i]?.getD []).length≤16) && ((i == 0 || decide (ks[i-1]?.getD []<ks[i]?.getD [])) && (((i == 0 && !leaf) || !decide (ks[i]?.getD []<lo)) && (hi == [] || decide (ks[i]?.getD []<hi)))))
def fitTo (lo hi:List UInt8) (leaf:Bool) (ks:List (List UInt8)) (n:Nat):Bool:=(List.range n).all (fitAt lo hi leaf ks)
theorem fitTo_succ (lo hi:List UInt8) (leaf:Bool) (ks:List (List UInt8)) (n:Nat):fitTo lo hi leaf ks (n+1)=(fitTo lo hi leaf ks n && fitAt lo hi leaf ks n):=by simp[fitTo,List.range_succ]
def valB (v:Tv):Bool:=decide (v.data.length≤400) && (v.pages.length == 0 || decide (needC (v.data.length:Int)≠0))
def fitT (lo hi:List UInt8):Tr→Bool
 | .leaf _ l=>fitTo lo hi true (keysOf l) l.length && l.all fun c=>valB c.2
 | .node _ l=>fitTo lo hi false (keysOf l) l.length
def cntT:Tr→Nat
 | .leaf _ l=>l.length
 | .node _ l=>l.length
def sizeB (root:Bool) (t:Tr):Bool:=decide ((if t.isLeaf then 1 else 2)≤cntT t) && (decide (sumT t≤122) && (root || !lowT t))
def nextH (hi:List UInt8):List (List UInt8×Tr)→List UInt8
 | []=>hi
 | d::_=>d.1
def depK (f:Tr→List UInt8→List UInt8→Option Nat) (lo hi:List UInt8):Nat→Nat→List (List UInt8×Tr)→Option Nat
 | _,far,[]=>some far
 | i,far,c::r=>match f c.2 (if i=0 then lo else c.1) (nextH hi r) with
  | none=>none
  | some d=>if i≠0∧d+1≠far then none else depK f lo hi (i+1) (d+1) r
def depthT:Nat→Tr→List UInt8→List UInt8→Bool→Option Nat
 | 0,_,_,_,_=>none
 | _+1,.leaf p l,lo,hi,root=>if fitT lo hi (.leaf p l) && sizeB root (.leaf p l) then some 0 else none
 | n+1,.node p l,lo,hi,root=>if fitT lo hi (.node p l) && sizeB root (.node p l) then depK (fun t lo hi=>depthT n t lo hi false) lo hi 0 0 l else none
def emptyB:Tr→Bool
 | .leaf p l=>p == 0 && l.isEmpty
 | .node _ _=>false
def checkT (n:Nat) (t:Tr):Bool:=emptyB t || (depthT n t [] [] true).isSome
theorem kids_all {P:List UInt8→List UInt8→Tr→Prop}:∀{r:List (List UInt8×Tr)} {c:List UInt8×Tr} {lo hi:List UInt8},KidsP P lo hi (c::r)→(keysOf r).Pairwise (fun a b=>a<b)∧∀d∈r,keyOk d.1∧lo<d.1∧ltH hi d.1
 | [],_,_,_,_=>⟨List.Pairwise.nil,fun d hd=>by cases hd⟩
 | e::r,c,lo,hi,h=>by
  obtain⟨h1,h2⟩:=kids_all h.2.2.2.2;refine⟨?_,fun d hd=>?_⟩
  ·unfold keysOf
   rw[List.map_cons,List.pairwise_cons];refine⟨fun x hx=>?_,h1⟩;obtain⟨d,hd,rfl⟩:=List.mem_map.1 hx;exact(h2 d hd).2.1
  ·rcases List.mem_cons.1 hd with rfl|hd
   ·exact⟨h.2.1,h.2.2.1,h.2.2.2.1⟩
   ·have:=h2 d hd
    exact⟨this.1,klt_trans h.2.2.1 this.2.1,this.2.2⟩
theorem pair_get {l:List (List UInt8)} (h:l.Pairwise (fun a b=>a<b)) {i j:Nat} (hij:i<j) (hj:j<l.length):l[i]?.getD []<l[j]?.getD []:=by
 rw[List.getElem?_eq_getElem (by omega),List.getElem?_eq_getElem hj];exact List.pairwise_iff_getElem.1 h i j (by omega) hj hij
theorem leaf_fit {lo hi:List UInt8} {p:Int} {l:List (List UInt8×Tv)} (h:LeafOk lo hi l):fitT lo hi (.leaf p l)=true:=by
 obtain⟨hp,hl⟩:=h;have hlen:(keysOf l).length=l.length:=by simp[keysOf]
 simp only[fitT,Bool.and_eq_true];refine⟨?_,?_⟩
 ·unfold fitTo
  rw[List.all_eq_true];intro i hi';rw[List.mem_range] at hi';have hk:(keysOf l)[i]?.getD []=(l[i]'hi').1:=by simp[keysOf,hi']
  obtain⟨c1,c2,c3,c4⟩:=hl (l[i]'hi') (List.getElem_mem hi');have hpr:i=0∨(keysOf l)[i-1]?.getD []<(keysOf l)[i]?.getD []:=by
   by_cases h0:i=0
   ·exact .inl h0
   ·exact .inr (pair_get hp (by omega) (by omega))
  rw[hk] at hpr;unfold fitAt;rw[hk];have n1:((l[i]'hi').1 == [])=false:=by simpa using c1.1
  rw[n1];have n2:decide ((l[i]'hi').1.length≤16)=true:=by simpa using c1.2
  have n3:decide ((l[i]'hi').1<lo)=false:=by simpa using c2
  have n4:(hi == [] || decide ((l[i]'hi').1<hi))=true:=by
   rcases c3 with rfl|c3
   ·rfl
   ·simp[c3]
  have n5:(i == 0 || decide ((keysOf l)[i-1]?.getD []<(l[i]'hi').1))=true:=by
   rcases hpr with h|h
   ·simp[h]
   ·simp[h]
  rw[n2,n3,n4,n5];simp
 ·rw[List.all_eq_true]
  intro c hc;obtain⟨c1,c2,c3,c4,c5⟩:=hl c hc;unfold valB
  by_cases h0:c.2.pages=[]
  ·simp[h0,c4]
  ·have h16:=c5 h0
   have:needC (c.2.data.length:Int)≠0:=by
    unfold needC;rw[if_neg (by omega)];omega
   simp[c4,this]
theorem node_fit {P:List UInt8→List UInt8→Tr→Prop} {lo hi:List UInt8} {p:Int} {l:List (List UInt8×Tr)} (h:KidsP P lo hi l) (h0:keyAt l 0=[]):fitT lo hi (.node p l)=true:=by
 cases l with
 | nil=>exact h.elim
 | cons c r=>
  have c0:c.1=[]:=by simpa[keyAt] using h0
  obtain⟨q1,q2⟩:=kids_all h;simp only[fitT];unfold fitTo;rw[List.all_eq_true];intro i hi';rw[List.mem_range] at hi';cases i with
  | zero=>
   unfold fitAt;have hk:(keysOf (c::r))[0]?.getD []=[]:=by simp[keysOf,c0]
   rw[hk]
   by_cases hh:hi=[]
   ·simp[hh]
   ·have:=knil_lt hh
    simp[this]
  | succ i=>
   have hir:i<r.length:=by simpa using hi'
   have hk:(keysOf (c::r))[i+1]?.getD []=(r[i]'hir).1:=by simp[keysOf,hir]
   obtain⟨c1,c2,c3⟩:=q2 (r[i]'hir) (List.getElem_mem hir);have hpr:(keysOf (c::r))[i]?.getD []<(r[i]'hir).1:=by
    cases i with
    | zero=>
     have:(keysOf (c::r))[0]?.getD []=[]:=by simp[keysOf,c0]
     rw[this];exact knil_lt c1.1
    | succ j=>
     have:=pair_get q1 (i:=j) (j:=j+1) (by omega) (by simp[keysOf];omega);have e1:(keysOf (c::r))[j+1]?.getD []=(keysOf r)[j]?.getD []:=by simp[keysOf]
     have e2:(keysOf r)[j+1]?.getD []=(r[j+1]'hir).1:=by simp[keysOf,hir]
     rw[e1,←e2];exact this
   unfold fitAt;rw[hk];have n1:((r[i]'hir).1 == [])=false:=by simpa using c1.1
   have n2:=c1.2;have n3:¬(r[i]'hir).1<lo:=klt_asymm c2;rw[n1]
   rcases c3 with rfl|c3<;>simp_all
theorem depK_ok {n:Nat} {f:Tr→List UInt8→List UInt8→Option Nat} (hf:∀lo hi t,Good n lo hi t→f t lo hi=some (n-1)) (hn:1≤n) {lo0:List UInt8}:∀{r:List (List UInt8×Tr)} {c:List UInt8×Tr} {lo hi:List UInt8} {i far:Nat},KidsP (Good n) lo hi (c::r)→(i=0∧lo=lo0∨i≠0∧c.1=lo∧far=n)→depK f lo0 hi i far (c::r)=some n
 | [],c,lo,hi,i,far,h,hi'=>by
  have e:(if i=0 then lo0 else c.1)=lo:=by
   rcases hi' with⟨rfl,rfl⟩|⟨h0,h1,_⟩
   ·rfl
   ·rw[if_neg h0,h1]
  unfold depK;rw[e];show(match f c.2 lo hi with|none=>none|some d=>_)=_;rw[hf lo hi c.2 h];simp only;rw[if_neg (by rcases hi' with⟨rfl,_⟩|⟨_,_,h2⟩<;>omega)];unfold depK
  congr 1
  omega
 | d::r,c,lo,hi,i,far,h,hi'=>by
  have e:(if i=0 then lo0 else c.1)=lo:=by
   rcases hi' with⟨rfl,rfl⟩|⟨h0,h1,_⟩
   ·rfl
   ·rw[if_neg h0,h1]
  unfold depK;rw[e];show(match f c.2 lo d.1 with|none=>none|some d=>_)=_;rw[hf lo d.1 c.2 h.1];simp only;rw[if_neg (by rcases hi' with⟨rfl,_⟩|⟨_,_,h2⟩<;>omega)];exact depK_ok hf hn h.2.2.2.2 (.inr ⟨by omega,rfl,by omega⟩)
theorem depth_ok:∀{n N:Nat} {lo hi:List UInt8} {t:Tr} {root:Bool},Shape n lo hi t→n≤N→sizeB root t=true→depthT N t lo hi root=some (n-1)
 | 0,_,_,_,_,_,h,_,_=>h.elim
 | n+1,0,_,_,_,_,_,h,_=>by omega
 | n+1,N+1,lo,hi,.leaf p l,root,h,hN,hs=>by
  obtain⟨rfl,hl⟩:=h;unfold depthT;rw[leaf_fit hl,hs];rfl
 | n+1,N+1,lo,hi,.node p l,root,h,hN,hs=>by
  obtain⟨h1,h0⟩:=shape_kids h;unfold depthT;rw[node_fit h1 h0,hs];have hn1:1≤n:=by
   cases n with
   | zero=>exact(kids_good0 h1).elim
   | succ n=>omega
  cases l with
  | nil=>exact h1.elim
  | cons c r=>
   rw[Bool.and_self,if_pos rfl,depK_ok (n:=n) (fun lo hi t hg=>depth_ok hg.1 (by omega) (by
    have h30:=hg.2.1;have h122:=hg.2.2;unfold sizeB lowT;have hc:(if t.isLeaf=true then 1 else 2)≤cntT t:=by
     cases t with
     | leaf p l=>
      have:l≠[]:=by intro e;subst e;simp[sum_leaf,sumI_nil] at h30
      have:=List.length_pos_iff.2 this;simp[Tr.isLeaf,cntT];omega
     | node p l=>simpa[Tr.isLeaf,cntT] using good_len hg
    simp[hc,h122,h30])) hn1 h1 (.inl ⟨rfl,rfl⟩)]
   rfl
theorem check_ok {n N:Nat} {t:Tr} (h:Root n t) (hN:n≤N) (he:emptyB t=true∨0<cntT t):checkT N t=true:=by
 unfold checkT
 rcases he with he|he
 ·rw[he];rfl
 ·rw[depth_ok h.1 hN (by
   unfold sizeB;have h122:=h.2.1;have hc:(if t.isLeaf=true then 1 else 2)≤cntT t:=by
    cases t with
    | leaf p l=>simp only[Tr.isLeaf,cntT,if_true] at he ⊢;omega
    | node p l=>simpa[Tr.isLeaf,cntT] using h.2.2 p l rfl
   simp[hc,h122])]
  simp
open Go.RowKit
def Bnd:Nat→Tr→Prop
 | 0,_=>True
 | _+1,.leaf _ l=>l.length≤1000∧∀c∈l,c.1.length≤200∧c.2.data.length≤1000
 | n+1,.node _ l=>l.length≤1000∧∀c∈l,c.1.length≤200∧Bnd n c.2
theorem Bnd.small {n:Nat} {t:Tr} (h:Bnd (n+1) t):Small (sizesT t):=by
 cases t with
 | leaf p l=>
  refine⟨by simp[sizesT];exact h.1,fun x hx=>?_⟩;obtain⟨c,hc,rfl⟩:=List.mem_map.1 hx;have:=(h.2 c hc).1;have:=vSz_le c.2;omega
 | node p l=>
  refine⟨by simp[sizesT];exact h.1,fun x hx=>?_⟩;obtain⟨c,hc,rfl⟩:=List.mem_map.1 hx;have:=(h.2 c hc).1;omega
theorem info_intT:(Tryz.prog.info? 3).map (fun i=>(i.zero,i.size,i.bytes))=some (some (.int .i64 0),1,8):=by kernel_rfl
theorem KeysIn.at {w:World} {a:Option Addr} {n c:Nat} {l:List (List UInt8)} (h:KeysIn w a n c l) {k:Nat} (hk:k<n) :
 ∃b off,a=some ⟨b,off,none⟩∧b<w.heap.size∧w.cell? ⟨b,off+k,none⟩=some (.string (strOf (l[k]?.getD []))):=by
 obtain⟨b,off,y,cs,e1,e2,e3,_,e5,e6⟩:=TabR.at h hk;have e5:cs=_:=e5;subst e5;have:=e6 0 _ rfl;refine⟨b,off,e1,e2,?_⟩;rw[e3];simpa using this
theorem ValsIn.at {w:World} {a:Option Addr} {n c:Nat} {l:List Tv} (h:ValsIn w a n c l) {k:Nat} (hk:k<n) :
 ∃b off v pa pn pc,a=some ⟨b,off,none⟩∧b<w.heap.size∧l[k]? = some v∧w.cell? ⟨b,off+k*2,none⟩=some (.string (strOf v.data))∧w.cell? ⟨b,off+k*2+1,none⟩=some (.slice pa pn pc)∧Row .i64 w pa pn pc v.pages:=by
 exact qfd2e77
def SizesPost (w:World) (S:List Int) (e:Ending) (w':World):Prop:=∃v,e=.returned v∧w'.ownsRow w.heap.size 3 1 v S.length (S.map (Value.int .i64))∧Below w.heap.size w w'
theorem tk_succ (l:List Int) (i:Nat) (h:i<l.length):l.take (i+1)=l.take i++[l[i]?.getD 0]:=by
 rw[List.take_succ_eq_append_getElem h,List.getElem?_eq_getElem h];rfl
theorem tsizes_node {n:Nat} {w:World} {cs:List Value} {p:Int} {l:List (List UInt8×Tr)} (h:NodeIn (n+1) w cs (.node p l)) (hb:Bnd (n+1) (.node p l)) :
 Calls Tryz.prog 144 #[.agg cs.toArray] w (SizesPost w (sizesT (.node p l))):=by
 obtain⟨ka,kn,kc,va,vc,ca,cn,cc,rfl,h1,h2,h3⟩:=h;obtain⟨g1,g2⟩:=hb;obtain⟨e1,e2,e3⟩:=h1.lens;have hkl:(keysOf l).length=l.length:=by simp[keysOf]
 have hsl:(sizesT (.node p l)).length=kn:=by rw[sizes_len_node,←hkl,e1]
 have HS:Hid (∀i,i<kn→(sizesT (.node p l))[i]?.getD 0=4+(((keysOf l)[i]?.getD []).length:Int)∧((keysOf l)[i]?.getD []).length≤200):=Hd (fun i hi=>by
  have hi':i<l.length:=by omega
  have:=(g2 l[i] (List.getElem_mem hi')).1;simp[sizesT,keysOf,hi',this])
 have HK:=Hd h1;have HSL:=Hd hsl;have hkn:kn≤1000:=by omega
 obtain⟨i0,hi0,hz0,hz1,hz2⟩:=info_parts info_intT;have hA:Below w.heap.size w (w.alloc (.cells #[.int .i64 p,.bool false,.slice ka kn kc,.slice va 0 vc,.slice ca cn cc] 50)):=(Below.refl _ _).alloc (Nat.le_refl _) _;have HBX:=Hd ((Boxes.nil w).alloc #[.int .i64 p,.bool false,.slice ka kn kc,.slice va 0 vc,.slice ca cn cc] 50 rfl);generalize sizesT (.node p l)=S at *;generalize keysOf l=K at *;clear h1 h2 h3 g1 g2 e1 hkl hsl;go_enter Tryz.func144,Tryz.ntmps144;go_wp2_with fail
 go_loopw [3,11] (fun s3 s11 wr=>∃i:Nat,i≤kn∧s11=.int .i64 i∧wr.ownsRow w.heap.size 3 1 s3 i ((S.take i).map (Value.int .i64))∧Below w.heap.size w wr∧Boxes wr [(w.heap.size,[.int .i64 p,.bool false,.slice ka kn kc,.slice va 0 vc,.slice ca cn cc])]∧s3.ownBlock≠some w.heap.size) (fun _ s _=>kn-(intOf s).toNat)
 case atStart=>exact⟨0,Nat.zero_le _,rfl,World.ownsRow_nil _ _ _ _,hA,HBX.out,by simp[Value.ownBlock]⟩
 case round=>
  clear HBX hA;obtain⟨i,hi,rfl,hown,hb,hbx,hnb⟩:=hrel
  by_cases hlt:i<kn
  ·obtain⟨b,off,rfl,hbb,hcell⟩:=HK.out.at hlt
   have c1:=(hb.cell (p:=⟨b,off+i,none⟩) hbb).trans hcell;obtain⟨q1,q2⟩:=HS.out i hlt;have hst:=Hd (tk_succ S i (by rw[HSL.out];exact hlt));have f1:=hbx.cell 0 1 rfl rfl;have hsz:=strOf_size (K[i]?.getD []);generalize K[i]?.getD []=k at *;obtain⟨m,hm⟩:∃m,k.length=m:=⟨_,rfl⟩
   rw[hm] at q1 q2 hsz;have HM:=Hd hm;clear hcell hm;obtain⟨v8,w8,hr8,ho8,hg8,hv8⟩:=run_append_new (P:=Tryz.prog) (w:=wr) w.heap.size 35 3 i0 _ 1 8 Tryz.underlying35 hi0 hz0 hz1 hz2 rfl (by decide) hown #[.int .i64 (4+(m:Int))] rfl (by intro u hu;simp at hu;subst hu;rfl) (by unfold maxLen;omega) (by omega) hb.size;have HB8:=Hd (hb.grown hg8 hb.size (own_ge hown));have HX8:=Hd (hbx.grown hg8 (by intro p hp;simp at hp;subst hp;exact hnb));have HN8:Hid (v8.ownBlock≠some w.heap.size):=Hd (by
    exact q298025)
   have HO8:Hid (w8.ownsRow w.heap.size 3 1 v8 (i+1) ((S.take (i+1)).map (Value.int .i64))):=Hd (by
    rw[hst.out,q1,List.map_append];exact ho8)
   clear hown hb hbx hnb ho8 hg8 hv8 q1 hst;exact qc8f5eb
  ·obtain rfl:i=kn:=by omega
   exact q075758
theorem tsizes_leaf {n:Nat} {w:World} {cs:List Value} {p:Int} {l:List (List UInt8×Tv)} (h:NodeIn (n+1) w cs (.leaf p l)) (hb:Bnd (n+1) (.leaf p l)) :
 Calls Tryz.prog 144 #[.agg cs.toArray] w (SizesPost w (sizesT (.leaf p l))):=by
 obtain⟨ka,kn,kc,va,vn,vc,ca,cc,rfl,h1,h2,h3⟩:=h;obtain⟨g1,g2⟩:=hb;obtain⟨e1,e2,e3⟩:=h1.lens;obtain⟨e4,e5,e6⟩:=h2.lens;have hkl:(keysOf l).length=l.length:=by simp[keysOf]
 have hsl:(sizesT (.leaf p l)).length=kn:=by rw[sizes_len_leaf,←hkl,e1]
 obtain rfl:kn=vn:=by rw[List.length_map] at e4;omega
 have HS:Hid (∀i,i<kn→∃v:Tv,(l.map (·.2))[i]? = some v∧(sizesT (.leaf p l))[i]?.getD 0=3+(vSz v:Int)+(((keysOf l)[i]?.getD []).length:Int)∧((keysOf l)[i]?.getD []).length≤200∧v.data.length≤1000):=Hd (fun i hi=>by
  have hi':i<l.length:=by omega
  have h5:=g2 l[i] (List.getElem_mem hi');exact⟨l[i].2,by simp[hi'],by simp[sizesT,keysOf,hi'],by simp[keysOf,hi',h5.1],h5.2⟩)
 have HK:=Hd h1;have HV:=Hd h2;have HSL:=Hd hsl;have hkn:kn≤1000:=by omega
 obtain⟨i0,hi0,hz0,hz1,hz2⟩:=info_parts info_intT;have hA:Below w.heap.size w (w.alloc (.cells #[.int .i64 p,.bool true,.slice ka kn kc,.slice va kn vc,.slice ca 0 cc] 50)):=(Below.refl _ _).alloc (Nat.le_refl _) _;have HBX:=Hd ((Boxes.nil w).alloc #[.int .i64 p,.bool true,.slice ka kn kc,.slice va kn vc,.slice ca 0 cc] 50 rfl);generalize sizesT (.leaf p l)=S at *;generalize keysOf l=K at *;generalize l.map (·.2)=V at *;clear h1 h2 h3 g1 g2 e1 e4 hkl hsl;go_enter Tryz.func144,Tryz.ntmps144;go_wp2_with fail
 go_loopw [3,11] (fun s3 s11 wr=>∃i:Nat,i≤kn∧s11=.int .i64 i∧wr.ownsRow w.heap.size 3 1 s3 i ((S.take i).map (Value.int .i64))∧Below w.heap.size w wr∧Boxes wr [(w.heap.size,[.int .i64 p,.bool true,.slice ka kn kc,.slice va kn vc,.slice ca 0 cc])]∧s3.ownBlock≠some w.heap.size) (fun _ s _=>kn-(intOf s).toNat)
 case atStart=>exact⟨0,Nat.zero_le _,rfl,World.ownsRow_nil _ _ _ _,hA,HBX.out,by simp[Value.ownBlock]⟩
 case round=>
  clear HBX hA;obtain⟨i,hi,rfl,hown,hb,hbx,hnb⟩:=hrel
  by_cases hlt:i<kn
  ·obtain⟨b,off,rfl,hbb,hcell⟩:=HK.out.at hlt
   have c1:=(hb.cell (p:=⟨b,off+i,none⟩) hbb).trans hcell;obtain⟨tv,q0,q1,q2,q3⟩:=HS.out i hlt;have hst:=Hd (tk_succ S i (by rw[HSL.out];exact hlt));have f1:=hbx.cell 0 1 rfl rfl;have hsz:=strOf_size (K[i]?.getD []);obtain⟨b2,off2,tv2,pa,pn,pc,rfl,hbb2,e9,hc2,_,_⟩:=HV.out.at hlt;rw[q0] at e9;cases e9;have c2:=(hb.cell (p:=⟨b2,off2+i*2,none⟩) hbb2).trans hc2;have f3:=hbx.cell 0 3 rfl rfl;have hsz2:=strOf_size tv.data;obtain⟨dl,hdl⟩:∃dl,tv.data.length=dl:=⟨_,rfl⟩
   have N:=fun W=>cneed_any (dl:Int) W
   have hvs:vSz tv=if dl≤16 then dl else 4:=by unfold vSz;rw[hdl]
   rw[hdl] at hsz2 q3;have HDL:=Hd hdl;clear hc2 hdl q0;generalize K[i]?.getD []=k at *;obtain⟨m,hm⟩:∃m,k.length=m:=⟨_,rfl⟩
   rw[hm] at q1 q2 hsz;have HM:=Hd hm;clear hcell hm
   by_cases hd:dl≤16
   ·rw[if_pos hd] at hvs
    rw[hvs] at q1;rw[show needC (dl:Int)=0 by unfold needC;rw[if_pos (.inl (by omega))]] at N;have d4:decide ((400:Int)<dl)=false:=by simp;omega
    have d4':decide (400<dl)=false:=by simp;omega
    obtain⟨v8,w8,hr8,ho8,hg8,hv8⟩:=run_append_new (P:=Tryz.prog) (w:=wr) w.heap.size 35 3 i0 _ 1 8 Tryz.underlying35 hi0 hz0 hz1 hz2 rfl (by decide) hown #[.int .i64 (3+(dl:Int)+(m:Int))] rfl (by intro u hu;simp at hu;subst hu;rfl) (by unfold maxLen;omega) (by omega) hb.size;have HB8:=Hd (hb.grown hg8 hb.size (own_ge hown));have HX8:=Hd (hbx.grown hg8 (by intro p hp;simp at hp;subst hp;exact hnb));have HN8:Hid (v8.ownBlock≠some w.heap.size):=Hd (by
     exact q298025)
    have HO8:Hid (w8.ownsRow w.heap.size 3 1 v8 (i+1) ((S.take (i+1)).map (Value.int .i64))):=Hd (by
     rw[hst.out,q1,List.map_append];exact ho8)
    clear hown hb hbx hnb ho8 hg8 hv8 q1 hst;clear hvs;go_wp2_with fail;refine(N _).mono ?_;rintro e w2 ⟨rfl,rfl⟩;exact qc8f5eb
   ·rw[if_neg hd] at hvs
    rw[hvs] at q1;obtain⟨v8,w8,hr8,ho8,hg8,hv8⟩:=run_append_new (P:=Tryz.prog) (w:=wr) w.heap.size 35 3 i0 _ 1 8 Tryz.underlying35 hi0 hz0 hz1 hz2 rfl (by decide) hown #[.int .i64 (7+(m:Int))] rfl (by intro u hu;simp at hu;subst hu;rfl) (by unfold maxLen;omega) (by omega) hb.size;have HB8:=Hd (hb.grown hg8 hb.size (own_ge hown));have HX8:=Hd (hbx.grown hg8 (by intro p hp;simp at hp;subst hp;exact hnb));have HN8:Hid (v8.ownBlock≠some w.heap.size):=Hd (by
     exact q298025)
    have HO8:Hid (w8.ownsRow w.heap.size 3 1 v8 (i+1) ((S.take (i+1)).map (Value.int .i64))):=Hd (by
     rw[hst.out,q1,List.map_append,show(3:Int)+((4:Nat):Int)+(m:Int)=7+(m:Int) by omega];exact ho8)
    clear hown hb hbx hnb ho8 hg8 hv8 q1 hst;exact qe53638
  ·obtain rfl:i=kn:=by omega
   exact q075758
theorem tsizes_any {n:Nat} {w:World} {cs:List Value} {t:Tr} (h:NodeIn n w cs t) (hb:Bnd n t):Calls Tryz.prog 144 #[.agg cs.toArray] w (SizesPost w (sizesT t)):=by
 cases n with
 | zero=>exact h.elim
 | succ n=>
  cases t with
  | leaf p l=>exact tsizes_leaf h hb
  | node p l=>exact tsizes_node h hb
def seeL (seen:List Int):List Int→Option (List Int)
 | []=>some seen
 | p::r=>if p∈seen then none else seeL (seen++[p]) r
def valL (d:List Rg) (r:Int) (seen:List Int) (v:Vv):Except Int (List Int×Tv):=
 if v.far=false then .ok (seen,⟨v.data,[]⟩)
 else if (getDC d r v.page v.size).2.2≠0 then .error (getDC d r v.page v.size).2.2
 else match seeL seen (getDC d r v.page v.size).2.1 with
  | none=>.error 11
  | some s=>.ok (s,⟨(getDC d r v.page v.size).1,(getDC d r v.page v.size).2.1⟩)
def valsL (d:List Rg) (r:Int):List Int→List En→Except Int (List Int×List (List UInt8×Tv))
 | seen,[]=>.ok (seen,[])
 | seen,e::l=>match valL d r seen e.v with
  | .error x=>.error x
  | .ok (s,v)=>match valsL d r s l with
   | .error x=>.error x
   | .ok (s2,L)=>.ok (s2,(e.key,v)::L)
def kidsL (f:List Int→Int→Except Int (List Int×Tr)):List Int→List En→Except Int (List Int×List (List UInt8×Tr))
 | seen,[]=>.ok (seen,[])
 | seen,e::l=>match f seen e.v.page with
  | .error x=>.error x
  | .ok (s,t)=>match kidsL f s l with
   | .error x=>.error x
   | .ok (s2,L)=>.ok (s2,(e.key,t)::L)
def loadT (d:List Rg) (r:Int):Nat→List Int→Int→Except Int (List Int×Tr)
 | 0,_,_=>.error 11
 | n+1,seen,p=>
  if p∈seen then .error 11
  else if pagedE d r p≠0 then .error (pagedE d r p)
  else if getNE (readB d r p)≠0 then .error (getNE (readB d r p))
  else if getNF (readB d r p) then (match valsL d r (seen++[p]) (getNL (readB d r p)) with
   | .error x=>.error x
   | .ok (s,L)=>.ok (s,.leaf p L))
  else (match kidsL (loadT d r n) (seen++[p]) (getNL (readB d r p)) with
   | .error x=>.error x
   | .ok (s,L)=>.ok (s,.node p L))
def roomL (seen:List Int):Nat:=((List.range 999).filter (fun k:Nat => !(seen.contains ((k:Int)+1)))).length
theorem roomL_nil:roomL []=999:=by
 unfold roomL;rw[List.filter_eq_self.2 (fun _ _=>by simp),List.length_range]
theorem filter_less {α:Type} {p q:α→Bool} {x:α}:∀{l:List α},(∀y∈l,q y=true→p y=true)→x∈l→p x=true→q x=false→(l.filter q).length<(l.filter p).length
 | [],_,h,_,_=>by simp at h
 | y::l,hs,hx,hp,hq=>by
  have hle:∀{l:List α},(∀y∈l,q y=true→p y=true)→(l.filter q).length≤(l.filter p).length:=by
   intro l
   induction l with
   | nil=>intro _;simp
   | cons z l ih=>
    intro h;have:=ih (fun y hy=>h y (List.mem_cons_of_mem _ hy));have hz:=h z (by simp);cases hqz:q z
    ·cases hpz:p z<;>simp[hqz,hpz]<;>omega
    ·simp[hqz,hz hqz];omega
  rcases List.mem_cons.1 hx with rfl|hx
  ·have:=hle (fun y hy=>hs y (List.mem_cons_of_mem _ hy))
   simp[hp,hq];omega
  ·have:=filter_less (fun y hy=>hs y (List.mem_cons_of_mem _ hy)) hx hp hq
   have hz:=hs y (by simp);cases hqz:q y
   ·cases hpz:p y<;>simp[hqz,hpz]<;>omega
   ·simp[hqz,hz hqz];omega
theorem roomL_see {seen:List Int} {p:Int} (h:p∉seen) (h1:1≤p) (h9:p≤999):roomL (seen++[p])<roomL seen:=by
 unfold roomL;refine filter_less (x:=(p-1).toNat) (fun y _ hy=>?_) (by simp;omega) ?_ ?_
 ·simp at hy ⊢
  exact hy.1
 ·have:(((p-1).toNat:Nat):Int)+1=p:=by omega
  rw[this];simpa using h
 ·have:(((p-1).toNat:Nat):Int)+1=p:=by omega
  rw[this];simp
theorem seeL_app {seen l s:List Int} (h:seeL seen l=some s):s=seen++l:=by
 induction l generalizing seen with
 | nil=>cases h;simp
 | cons p r ih=>
  unfold seeL at h
  split at h
  ·cases h
  ·rw[ih h];simp
theorem roomL_mono {seen l:List Int}:roomL (seen++l)≤roomL seen:=by
 unfold roomL;generalize List.range 999=R
 induction R with
 | nil=>simp
 | cons k R ih=>
  simp only[List.filter_cons]
  by_cases h1:((k:Int)+1)∈seen
  ·simp[h1];simpa using ih
  ·by_cases h2:((k:Int)+1)∈l
   ·simp[h1,h2];have:=ih;simp at this;omega
   ·simp[h1,h2];simpa using ih
theorem getFC_len (rd:Int→Int×Int×List UInt8):∀(n:Nat) (s:List UInt8) (at_:List Int) (left:Int),(getFC rd n s at_ left).1.length≤s.length+119*n
 | 0,s,at_,left=>by unfold getFC;simp
 | n+1,s,at_,left=>by
  unfold getFC;dsimp only
  split
  ·simp
  ·rename_i h1
   split
   ·simp
   ·rename_i h2
    have hp:(rd (at_.getLastD 0)).2.2.length≤119:=by
     have:¬((rd (at_.getLastD 0)).2.2.length:Int)≠min left 119:=fun e=>h1 (.inr ⟨by simpa using h2,e⟩)
     omega
    split
    ·simp only[List.length_append];omega
    ·split
     ·simp
     ·have:=getFC_len rd n (s++(rd (at_.getLastD 0)).2.2) (at_++[(rd (at_.getLastD 0)).2.1]) (left-(rd (at_.getLastD 0)).2.2.length)
      simp only[List.length_append] at this;omega
theorem getDC_len (d:List Rg) (r first size:Int):(getDC d r first size).1.length≤476:=by
 unfold getDC getC
 split
 ·simp
 ·have:=getFC_len (rdC d r) 4 [] [first] size
  simpa using this
theorem getFC_at (rd:Int→Int×Int×List UInt8):∀(n:Nat) (s:List UInt8) (at_:List Int) (left:Int),(∀p∈(getFC rd n s at_ left).2.1,p∈at_∨pgC p=true)∧(getFC rd n s at_ left).2.1.length≤at_.length+n
 | 0,s,at_,left=>by unfold getFC;simp
 | n+1,s,at_,left=>by
  unfold getFC;dsimp only
  split
  ·simp
  ·split
   ·simp
   ·split
    ·exact⟨fun p hp=>.inl hp,by show at_.length≤_;omega⟩
    ·split
     ·simp
     ·rename_i h3
      have:=getFC_at rd n (s++(rd (at_.getLastD 0)).2.2) (at_++[(rd (at_.getLastD 0)).2.1]) (left-(rd (at_.getLastD 0)).2.2.length);refine⟨fun p hp=>?_,by have:=this.2;rw[List.length_append] at this;simp only[List.length_singleton] at this;omega⟩
      rcases this.1 p hp with h|h
      ·rcases List.mem_append.1 h with h|h
       ·exact .inl h
       ·rw[List.mem_singleton.1 h]
        refine .inr ?_;cases hq:pgC (rd (at_.getLastD 0)).2.1
        ·exact absurd (.inr (.inl hq)) h3
        ·rfl
      ·exact .inr h
theorem getDC_at (d:List Rg) (r first size:Int):(∀p∈(getDC d r first size).2.1,p=first∨pgC p=true)∧(getDC d r first size).2.1.length≤5:=by
 unfold getDC getC
 split
 ·simp
 ·have:=getFC_at (rdC d r) 4 [] [first] size
  simpa using this
theorem valL_len {d:List Rg} {r:Int} {seen:List Int} {v:Vv} {s:List Int} {x:Tv} (h:valL d r seen v=.ok (s,x)) (hv:v.data.length≤16):x.data.length≤476:=by
 unfold valL at h
 split at h
 ·cases h;show v.data.length≤476;omega
 ·split at h
  ·cases h
  ·split at h
   ·cases h
   ·cases h;exact getDC_len _ _ _ _
theorem valsL_len {d:List Rg} {r:Int}:∀{l:List En} {seen s:List Int} {L:List (List UInt8×Tv)},valsL d r seen l=.ok (s,L)→(∀e∈l,e.key.length≤16∧e.v.data.length≤16)→L.length=l.length∧∀c∈L,c.1.length≤16∧c.2.data.length≤476
 | [],seen,s,L,h,_=>by cases h;simp
 | e::l,seen,s,L,h,hl=>by
  unfold valsL at h
  split at h
  ·cases h
  ·rename_i s1 v1 h1
   split at h
   ·cases h
   ·rename_i s2 L2 h2
    cases h;have ih:=valsL_len h2 (fun e he=>hl e (List.mem_cons_of_mem _ he));have he:=hl e (by simp);refine⟨by simp[ih.1],fun c hc=>?_⟩
    rcases List.mem_cons.1 hc with rfl|hc
    ·exact⟨he.1,valL_len h1 he.2⟩
    ·exact ih.2 c hc
theorem kidsL_len {f:List Int→Int→Except Int (List Int×Tr)} {Q:Tr→Prop}:∀{l:List En} {seen s:List Int} {L:List (List UInt8×Tr)},kidsL f seen l=.ok (s,L)→(∀e∈l,e.key.length≤16)→(∀seen p s t,f seen p=.ok (s,t)→Q t)→L.length=l.length∧∀c∈L,c.1.length≤16∧Q c.2
 | [],seen,s,L,h,_,_=>by cases h;simp
 | e::l,seen,s,L,h,hl,hQ=>by
  unfold kidsL at h
  split at h
  ·cases h
  ·rename_i s1 v1 h1
   split at h
   ·cases h
   ·rename_i s2 L2 h2
    cases h;have ih:=kidsL_len h2 (fun e he=>hl e (List.mem_cons_of_mem _ he)) hQ;refine⟨by simp[ih.1],fun c hc=>?_⟩
    rcases List.mem_cons.1 hc with rfl|hc
    ·exact⟨hl e (by simp),hQ _ _ _ _ h1⟩
    ·exact ih.2 c hc
theorem getN_node {b:List UInt8} (h:getNE b=0):nodeB (getNF b) (getNL b)=true:=by
 have h1:=h;unfold getNE at h1
 split at h1
 ·omega
 ·split at h1
  ·rename_i h2
   unfold getNB at h2;simp only[Bool.and_eq_true] at h2;have h3:=h2.2;cases he:entN b with
   | none=>rw[he] at h3;cases h3
   | some l=>
    rw[he] at h3;unfold getNL getNF;rw[if_pos h,if_pos h,he];exact h3
  ·omega
theorem nodeB_small {leaf:Bool} {l:List En} (h:nodeB leaf l=true):l.length≤122∧(∀e∈l,e.key.length≤16∧e.v.data.length≤16)∧(leaf=false→∀e∈l,2≤e.v.page∧e.v.page≤999):=by
 have hm:=nodeB_may h;unfold nodeB at h;simp only[Bool.and_eq_true,decide_eq_true_eq] at h;refine⟨by omega,fun e he=>?_,fun hl e he=>?_⟩
 ·obtain⟨i,hi⟩:=hm e he
  refine⟨may_len hi,?_⟩;cases leaf
  ·simp only[mayN,Bool.false_eq_true,if_false,mayB,Bool.and_eq_true,beq_iff_eq] at hi
   rw[hi.2.2];simp
  ·simp only[mayN,if_true,mayL] at hi
   split at hi
   ·simp only[Bool.and_eq_true,beq_iff_eq] at hi
    rw[hi.2.1];simp
   ·simp only[Bool.and_eq_true,decide_eq_true_eq] at hi
    exact hi.2.1
 ·obtain⟨i,hi⟩:=hm e he
  subst hl;simp only[mayN,Bool.false_eq_true,if_false,mayB,Bool.and_eq_true] at hi;exact(pageB_iff _).1 hi.2.1
theorem loadT_bnd {d:List Rg} {r:Int}:∀{n:Nat} {seen s:List Int} {p:Int} {t:Tr},loadT d r n seen p=.ok (s,t)→Bnd n t∧t.page=p
 | 0,_,_,_,_,h=>by cases h
 | n+1,seen,s,p,t,h=>by
  unfold loadT at h
  split at h
  ·cases h
  ·split at h
   ·cases h
   ·split at h
    ·cases h
    ·rename_i hE
     have hE0:getNE (readB d r p)=0:=by simpa using hE
     obtain⟨n1,n2,n3⟩:=nodeB_small (getN_node hE0)
     split at h
     ·split at h
      ·cases h
      ·rename_i hv
       cases h;obtain⟨k1,k2⟩:=valsL_len hv n2;exact⟨⟨by omega,fun c hc=>by have:=k2 c hc;omega⟩,rfl⟩
     ·split at h
      ·cases h
      ·rename_i hv
       cases h;obtain⟨k1,k2⟩:=kidsL_len (Q:=fun t=>Bnd n t) hv (fun e he=>(n2 e he).1) (fun _ _ _ _ h=>(loadT_bnd h).1);exact⟨⟨by omega,fun c hc=>⟨by have:=(k2 c hc).1;omega,(k2 c hc).2⟩⟩,rfl⟩
end Go.Proofs.YtpghlmcoajaiiaaGreatDoor
namespace Go.Proofs.YtpghlmcoajaiiaaGreatDoor
open Go.RowKit Go.Maps
def GetPostC (w:World) (R:List UInt8×List Int×Int) (e:Ending) (w':World):Prop:=
 ∃v,e=.returned (.tuple #[.string (strOf R.1),v,.int .i64 R.2.2])∧w'.ownsRow w.heap.size 3 1 v R.2.1.length (R.2.1.map (Value.int .i64))∧Below w.heap.size w w'
theorem getPostC_bad {w w':World} {E:Int} (h:Below w.heap.size w w'):GetPostC w ([],[],E) (.returned (.tuple #[.string ⟨#[]⟩,.slice none 0 0,.int .i64 E])) w':=
 ⟨_,rfl,World.ownsRow_nil _ _ _ _,h⟩
structure GRelC (w:World) (d:List Rg) (r:Int) (pb:Nat) (R:List UInt8×List Int×Int) (s:List UInt8) (L:List Int) (left:Nat) (v:Value) (wr:World):Prop where
 fin:getFC (rdC d r) (5-L.length) s L left=R
 l1:1≤L.length
 l4:L.length≤4
 lf:0<left
 lb:left+119*(L.length-1)≤400
 sl:s.length≤119*(L.length-1)
 plc:Plc w.heap.size wr pb L
 own:wr.ownsRow w.heap.size 5 1 v s.length ((toI s).map (Value.int .u8))
 bl:Below w.heap.size w wr
theorem Plc.list {B:Nat} {w:World} {pb:Nat} {L:List Int} (h:Plc B w pb L) (h1:L≠[]):∃g c,pb<w.heap.size∧g<w.heap.size∧L.length≤c∧c≤9223372036854775807∧w.cell? ⟨pb,0,none⟩=some (.slice (some ⟨g,0,none⟩) L.length c)∧(∀i,i<L.length→w.cell? ⟨g,i,none⟩=some (.int .i64 (atC L i)))∧w.ownsRow B 3 1 (.slice (some ⟨g,0,none⟩) L.length c) L.length (L.map (Value.int .i64)):=by
 obtain⟨v,mb,n,e1,e2,_⟩:=h;obtain⟨a,c,rfl,k1,k2,k3⟩:=own_slice e2;obtain⟨g,rfl⟩:=k3 (by have:=List.length_pos_iff.2 h1;omega);refine⟨g,c,(Array.getElem?_eq_some_iff.1 e1).1,own_lt e2 g rfl,k1,by unfold maxLen at k2;omega,by simp[World.cell?,e1],fun i hi=>?_,e2⟩;have:=e2.cellAt i (by simpa using hi);rw[this];simp[atC,hi]
theorem Plc.grownU {B:Nat} {w w':World} {pb:Nat} {L:List Int} (h:Plc B w pb L) {base size n:Nat} {v:Value} {xs:List Value} (ho:w.ownsRow base 5 size v n xs) (hg:w.grownBy w' v.ownBlock):Plc B w' pb L:=by
 have hk:∀(k:Nat) (o:Obj),w.heap[k]? = some o→(∀c:Array Value,o≠Obj.cells c 5 (0,0))→w'.heap[k]? = some o:=by
  intro k o hk hne;rw[hg.block k (Array.getElem?_eq_some_iff.1 hk).1 (fun e=>?_)]
  ·exact hk
  ·rcases ho.2 with⟨rfl,_⟩|⟨g,cap,cur,rfl,_,hh,_⟩
   ·cases e
   ·cases e
    rw[hh] at hk;exact hne cur (Option.some.inj hk).symm
 obtain⟨v0,mb,n0,h1,h2,⟨D,⟨es,c,h3,h3'⟩,h3''⟩,h4⟩:=h;refine⟨v0,mb,n0,hk pb _ h1 (fun c e=>by cases e),⟨h2.1,h2.2.imp id fun⟨g,cap,cur,e1,hg1,hh,r⟩=>⟨g,cap,cur,e1,hg1,hk g _ hh (fun c e=>by cases e),r⟩⟩,⟨D,⟨es,c,hk mb _ h3 (fun c e=>by cases e),h3'⟩,h3''⟩,h4⟩
theorem oneFNC_lt (d:List Rg) (r p:Int):0≤oneFNC d r p∧oneFNC d r p<65536:=by
 unfold oneFNC oneNC
 split
 ·omega
 ·split
  ·have h1:=beVal_lt (((unpL (readB d r p))[0]?.getD []).take 2)
   have h2:(((unpL (readB d r p))[0]?.getD []).take 2).length≤2:=by rw[List.length_take];omega
   have h3:(256:Nat) ^ (((unpL (readB d r p))[0]?.getD []).take 2).length≤256 ^ 2:=Nat.pow_le_pow_right (by omega) h2;omega
  ·omega
theorem cget_any {w:World} {B da M:Nat} {d:List Rg} (h:One B w da M d) (hh:Half w) (r first size:Int) (hf:I64 first) :
 Calls Tryz.prog 141 #[.pointer (some ⟨da,0,none⟩),.int .i64 r,.int .i64 first,.int .i64 size] w (GetPostC w (getDC d r first size)):=by
 by_cases h0:needC size=0
 ·have HR:Hid (getDC d r first size=([],[],1)):=Hd (by unfold getDC getC;rw[if_pos h0])
  have C:=cneed_any size w;rw[h0] at C;clear h0;go_enter Tryz.func141,Tryz.ntmps141;go_wp2_with fail;refine C.mono ?_;rintro e w1 ⟨rfl,rfl⟩;go_wp2_with fail
  go_ret3
  rw[HR.out];exact getPostC_bad (Below.refl _ _)
 ·have hsz:=needC_pos h0
  obtain⟨sz,rfl⟩:=Int.eq_ofNat_of_zero_le (show 0≤size by omega);obtain⟨w2,hu,hplc,hbl⟩:=plc_new w first hf
  obtain⟨R,hR⟩:∃R,getDC d r first (sz:Int)=R:=⟨_,rfl⟩
  have hR0:=hR;unfold getDC getC at hR0;rw[if_neg h0] at hR0;have HS:=Hd (show GRelC w d r (w2.heap.size+1) R [] [first] sz (.slice none 0 0) ((w2.alloc (.cells #[.int .i64 first] 3)).alloc (.cells #[.slice (some ⟨w2.heap.size,0,none⟩) 1 1,.map (some w.heap.size)] 323)) from⟨hR0,by simp,by simp,by omega,by simp;omega,by simp,hplc,World.ownsRow_nil _ _ _ _,hbl⟩);have C:=cneed_any (sz:Int) w;have q0:((needC (sz:Int):Int) == 0)=false:=by rw[beq_eq_false_iff_ne];omega
  have q0':(needC (sz:Int) == 0)=false:=by simpa using h0
  rw[hR];generalize needC (sz:Int)=ns at *;have hmm:=@run_makeMap Tryz.prog;clear hR hR0 hplc hbl h0;go_enter Tryz.func141,Tryz.ntmps141;go_wp2_with fail;refine C.mono ?_;rintro e w1 ⟨rfl,rfl⟩;go_wp2_with fail;clear hmm;generalize (w2.alloc (.cells #[.int .i64 first] 3)).alloc (.cells #[.slice (some ⟨w2.heap.size,0,none⟩) 1 1,.map (some w.heap.size)] 323)=w3 at *;generalize w2.heap.size+1=pb at *
  go_loopw [12,13] (fun s12 s13 wr=>∃(s:List UInt8) (L:List Int) (left:Nat),s13=.int .i64 left∧GRelC w d r pb R s L left s12 wr) (fun _ s13 _=>(intOf s13).toNat)
  case atStart=>exact⟨[],[first],sz,rfl,HS.out⟩
  case round=>
   clear HS;obtain⟨s,L,left,rfl,hrel⟩:=hrel;obtain⟨m,hn⟩:∃m,L.length=m:=⟨_,rfl⟩
   have hm1:1≤m:=by have:=hrel.l1;omega
   have hLne:L≠[]:=by intro e;rw[e] at hn;simp at hn;omega
   obtain⟨g,c,p1,p2,p3,p4,p5,p6,_⟩:=hrel.plc.list hLne;have hlast:L.getLastD 0=atC L (m-1):=by
    rw[List.getLastD_eq_getLast?,List.getLast?_eq_getElem?,hn];rfl
   have hbw:=hrel.bl;have cA:∀W,Below wr.heap.size wr W→W.cell? ⟨pb,0,none⟩=some (.slice (some ⟨g,0,none⟩) m c):=fun W hW=>by rw[hW.cell (p:=⟨pb,0,none⟩) p1,p5,hn]
   have cB:∀W,Below wr.heap.size wr W→W.cell? ⟨g,m-1,none⟩=some (.int .i64 (atC L (m-1))):=fun W hW=>by rw[hW.cell (p:=⟨g,m-1,none⟩) p2,p6 (m-1) (by omega)]
   have hb0:Below wr.heap.size wr wr.drew:=below_drewN (Below.refl _ _) 1;have hb0w:Below w.heap.size w wr.drew:=below_drewN hbw 1;have C:=cone_any (h.below hb0w) (hh.below (Nat.le_refl _) hb0w) r (atC L (m-1));have hfin:=hrel.fin;obtain⟨fu,hfu⟩:∃fu,5-L.length=fu+1:=⟨4-L.length,by have:=hrel.l4;omega⟩
   rw[hfu,getFC,hlast] at hfin
   try simp only at hfin
   rw[hn] at p3;have HREL:=Hd hrel;have HN:=Hd hn;have HFU:=Hd hfu;have HFIN:=Hd hfin;have hlf:=hrel.lf;have hlb:=hrel.lb;have hm4:=hrel.l4;obtain⟨av,cv,hev,hcv,hcvm,_⟩:=own_slice hrel.own;subst hev;unfold maxLen at hcvm;clear hrel hfin p5 p6 hLne hlast hbw hb0w hfu;rw[hn] at hlb hm4;clear hn;generalize hlst:atC L (m-1)=last at *;have HLST:=Hd hlst;clear hlst;have iw:IntKind.i64.wrap ((m:Int)-1)=(m:Int)-1:=by simp[IntKind.wrap,IntKind.signed,IntKind.bits];omega
   have j1:1≤m:=hm1;have j2:(1:Int)≤(m:Int):=by omega
   have j3:decide ((0:Int)≤(m:Int)-1)=true:=by simp;omega
   have j4:decide ((m:Int)-1<(m:Int))=true:=decide_eq_true (by omega);have i1:(0:Int)≤(m:Int)-1:=by omega
   have i2:(m:Int)-1<(m:Int):=by omega
   have i3:((m:Int)-1).toNat=m-1:=by omega
   go_wp2_with fail
   go_region_held3 (fun W=>Below wr.heap.size wr W) (with_reducible assumption) (first|(go_at_call 178;refine C.mono ?_;rintro e wx ⟨vx,rfl,hox,hbx⟩;have hBx:Below wr.heap.size wr wx:=below_then hb0 hbx))
   have HBX:=Hd (below_then HREL.out.bl hBx);have HPX:=Hd (HREL.out.plc.below hBx);have HOX:=Hd (own_below HREL.out.own (Nat.le_refl _) hBx);have HF2:=HFIN.out;rw[show(rdC d r last).1=oneFEC d r last from rfl,show(rdC d r last).2.1=oneFNC d r last from rfl,show(rdC d r last).2.2=oneFPC d r last from rfl] at HF2;generalize oneFEC d r last=E at *;have hNlt:=oneFNC_lt d r last;generalize oneFNC d r last=N at *;generalize oneFPC d r last=P at *
   by_cases hE:E=0
   ·subst hE
    obtain⟨ax,cx,rfl,hcx,hcxm,_⟩:=own_slice hox;unfold maxLen at hcxm;obtain⟨f,hfm⟩:∃f,min left 119=f:=⟨_,rfl⟩
    have hmin:(if (119:Int)<(left:Int) then (119:Int) else (left:Int))=(f:Int):=by rw[←hfm];split<;>omega
    have hmin2:(if 119<left then (119:Int) else (left:Int))=(f:Int):=by rw[←hfm];split<;>omega
    have hfi:min (left:Int) 119=(f:Int):=by omega
    rw[hfi] at HF2
    by_cases hk:P.length=f
    ·rw[if_neg (by rintro(h|⟨_,h⟩);exact absurd h (by decide);exact h (by omega)),if_neg (by simp)] at HF2
     have z2:((P.length:Int) != (f:Int))=false:=by rw[bne_eq_false_iff_eq];omega
     have z3:((P.length:Int) == (f:Int))=true:=by rw[beq_iff_eq];omega
     obtain⟨q,hq⟩:∃q,left-P.length=q:=⟨_,rfl⟩
     have hLI:(left:Int)-(P.length:Int)=(q:Int):=by omega
     rw[hLI] at HF2;have hPl:P.length≤119:=by omega
     obtain⟨i0,hi,hz0,hz1,hz2⟩:=info_parts info_u8;obtain⟨aP,cP,eP,hbsP⟩:=Bs.of_own hox;cases eP;have hsl:=HREL.out.sl;have hm5:=HN.out;obtain⟨v2,wy,hr2,ho2,hg2,_⟩:=run_append_row (P:=Tryz.prog) (w:=wx) w.heap.size 42 5 i0 _ 1 Tryz.underlying42 hi hz0 hz1 hz2 rfl HOX.out hbsP (by unfold maxLen;omega) (by omega) HBX.out.size;have HP2:=Hd (HPX.out.grownU HOX.out hg2);have HB2:=Hd (HBX.out.grown hg2 HBX.out.size (own_ge HOX.out));have ho2':wy.ownsRow w.heap.size 5 1 v2 (s++P).length ((toI (s++P)).map (Value.int .u8)):=by
      rw[List.length_append];simpa[toI] using ho2
     have HO2:=Hd ho2';obtain⟨a2,c2,rfl,hbs2⟩:=Bs.of_own ho2';have hsl2:s.length+P.length=(s++P).length:=by simp
     have hLne:L≠[]:=by intro e;rw[e] at hm5;simp at hm5;omega
     obtain⟨g2,cc2,t1,t2,t3,t4,t5,t6,t7⟩:=HP2.out.list hLne;have hlen9:(s++P).length=s.length+f:=by rw[List.length_append,hk]
     rw[hlen9] at hbs2;have hcv2:∀W,Below wy.heap.size wy W→(convert 42 9 (.slice a2 (s.length+f) c2)).run Tryz.prog W=.ok (.string (strOf (s++P))) W:=fun W hW=>conv_string (P:=Tryz.prog) Tryz.underlying42 Tryz.underlying5 Tryz.underlying9 (hbs2.below (Nat.le_refl _) hW)
     have cP2:∀W,Below wy.heap.size wy W→W.cell? ⟨pb,0,none⟩=some (.slice (some ⟨g2,0,none⟩) L.length cc2):=fun W hW=>(hW.cell (p:=⟨pb,0,none⟩) t1).trans t5
     have hby0:Below wy.heap.size wy wy.drew:=below_drewN (Below.refl _ _) 1;clear hox hbx hBx cA cB C HFIN ho2 ho2' hg2 hbsP hi hz0 hz1 hz2 hbs2 t6 hLne
     by_cases h0:q=0
     ·subst h0
      by_cases hN:N=0
      ·subst hN
       rw[if_pos ⟨rfl,rfl⟩] at HF2;have HE:Hid (GetPostC w R (.returned (.tuple #[.string (strOf (s++P)),.slice (some ⟨g2,0,none⟩) m cc2,.int .i64 0])) wy):=Hd (by
        rw[←HF2];refine⟨_,rfl,?_,HB2.out⟩;show wy.ownsRow _ _ 1 _ L.length (L.map _);have t8:=t7;rw[hm5] at t8 ⊢;exact t8)
       clear HF2 t7 hfm hfi;have hw:IntKind.i64.wrap ((left:Int)-(P.length:Int))=(0:Int):=by rw[hLI];rfl
       go_wp2_with (at_builtin;refine wpList_append_run rfl _ _ _ _ rfl rfl rfl hr2 ?_)
       go_region_held3 (fun W=>Below wy.heap.size wy W) (with_reducible assumption) (fail)
       all_goals
        go_wp2_with fail
        go_ret3
        obtain⟨vv,k1,k2,k3⟩:=HE.out;exact⟨vv,k1,k2,below_drewN k3 1⟩
      ·rw[if_neg (fun h=>hN h.2),if_pos (.inl rfl)] at HF2
       have HE:Hid (GetPostC w R (.returned (.tuple #[.string ⟨#[]⟩,.slice none 0 0,.int .i64 11])) wy):=Hd (by rw[←HF2];exact getPostC_bad HB2.out);have hw:IntKind.i64.wrap ((left:Int)-(P.length:Int))=(0:Int):=by rw[hLI];rfl
       have z5:(N == 0)=false:=by simpa using hN
       clear HF2 t7 hfm hfi
       go_wp2_with (at_builtin;refine wpList_append_run rfl _ _ _ _ rfl rfl rfl hr2 ?_)
       go_ret3
       exact HE.out
     ·rw[if_neg (fun h=>h0 (by have:=h.1;omega))] at HF2
      have hw:IntKind.i64.wrap ((left:Int)-(P.length:Int))=(q:Int):=by rw[hLI];simp[IntKind.wrap,IntKind.signed,IntKind.bits];omega
      have z5:((q:Int) == 0)=false:=by rw[beq_eq_false_iff_ne];omega
      have z6:(q == 0)=false:=by simpa using h0
      have A:=add_any HP2.out (by omega) N (by unfold I64;omega);have hm3:m≤3:=by omega
      have HQ:Hid (left=q+f∧f=119∧m≤3):=Hd ⟨by omega,by omega,hm3⟩;have HF3:=Hd HF2;have HL9:=Hd hlen9;have HH0:=Hd h0;clear HF2 t7 hfm hfi
      go_wp2_with (at_builtin;refine wpList_append_run rfl _ _ _ _ rfl rfl rfl hr2 ?_)
      refine A.mono ?_;rintro e wz ⟨hbz,hku,hpz⟩
      by_cases hg:pgC N=true∧N∉L
      ·rw[if_pos hg] at hpz
       obtain⟨rfl,hpl⟩:=hpz;have HF4:=HF3.out;rw[if_neg (by rintro(h|h|h);exact HH0.out (by omega);rw[hg.1] at h;cases h;exact hg.2 h)] at HF4;have HG:=Hd (show GRelC w d r pb R (s++P) (L++[N]) q (.slice a2 (s.length+f) c2) wz from⟨by rw[←HF4];congr 1;rw[List.length_append];have:=HFU.out;simp;omega,by simp,by have:=HQ.out;have:=HN.out;simp;omega,by omega,by have:=HQ.out;have:=HN.out;simp;omega,by have:=HQ.out;have:=HN.out;have:=HREL.out.sl;have:=HL9.out;simp;omega,hpl,by have:=hku.own HO2.out;rw[HL9.out] at this ⊢;exact this,HB2.out.trans hbz⟩);clear A hpl hku hbz HF4;go_wp2_with fail;go_roundw
       case rel=>exact⟨s++P,L++[N],q,by congr 1;have:=HQ.out;omega,HG.out⟩
       case measure=>have:=HQ.out;simp[intOf];omega
      ·rw[if_neg hg] at hpz
       obtain⟨rfl,rfl⟩:=hpz;have HF4:=HF3.out;rw[if_pos (by
        by_cases h1:pgC N=true
        ·exact .inr (.inr (by by_cases h2:N∈L;exact h2;exact absurd ⟨h1,h2⟩ hg))
        ·exact .inr (.inl (by simpa using h1)))] at HF4
       have HE:Hid (GetPostC w R (.returned (.tuple #[.string ⟨#[]⟩,.slice none 0 0,.int .i64 11])) wy):=Hd (by rw[←HF4];exact getPostC_bad HB2.out);clear A HF4 hku hbz hg;go_wp2_with fail
       go_ret3
       exact HE.out
    ·rw[if_pos (.inr ⟨rfl,by omega⟩)] at HF2
     have HE:Hid (GetPostC w R (.returned (.tuple #[.string ⟨#[]⟩,.slice none 0 0,.int .i64 11])) wx):=Hd (by rw[←HF2];exact getPostC_bad HBX.out);have z1:((P.length:Int) != (f:Int))=true:=by rw[bne_iff_ne];omega
     have z2:((P.length:Int) == (f:Int))=false:=by rw[beq_eq_false_iff_ne];omega
     clear HF2 hox hbx hBx cA cB C HFIN hfi hfm hk;go_wp2_with fail
     go_ret3
     exact HE.out
   ·by_cases hE2:E=10
    ·subst hE2
     rw[if_pos (.inl rfl)] at HF2;have HE:Hid (GetPostC w R (.returned (.tuple #[.string ⟨#[]⟩,.slice none 0 0,.int .i64 11])) wx):=Hd (by rw[←HF2];exact getPostC_bad HBX.out);clear HF2 hox hbx hBx cA cB C HFIN;go_wp2_with fail
     go_ret3
     exact HE.out
    ·rw[if_neg (by rintro(h|h);exact hE2 h;exact hE h.1),if_pos hE] at HF2
     have HE:Hid (GetPostC w R (.returned (.tuple #[.string ⟨#[]⟩,.slice none 0 0,.int .i64 E])) wx):=Hd (by rw[←HF2];exact getPostC_bad HBX.out);have z1:(E == 10)=false:=by simpa using hE2
     have z2:(E == 0)=false:=by simpa using hE
     have z3:(E != 0)=true:=by simpa using hE
     clear HF2 hox hbx hBx cA cB C HFIN hE hE2;go_wp2_with fail
     go_ret3
     exact HE.out
end Go.Proofs.YtpghlmcoajaiiaaGreatDoor
namespace Go.Proofs.YtpghlmcoajaiiaaGreatDoor
open Go.RowKit
theorem TabR.tk {α:Type} {sz:Nat} {R:List Value→α→Prop} {w:World} {a:Option Addr} {len cap:Nat} {l:List α} (h:TabR sz R w a len cap l) {j:Nat} (hj:j≤len):TabR sz R w a j cap (l.take j):=by
 obtain⟨h1,h2,h3,hn,h4⟩:=h;refine⟨by simp;omega,by omega,h3,hn,?_⟩
 rcases h4 with h4|⟨b,off,h5,h6,h7⟩
 ·exact .inl (by omega)
 ·refine .inr ⟨b,off,h5,h6,fun i y hy=>h7 i y ?_⟩
  have hi:i<j:=by have:=(List.getElem?_eq_some_iff.1 hy).1;simp at this;omega
  rwa [List.getElem?_take_of_lt hi] at hy
theorem TabR.dp {α:Type} {sz:Nat} {R:List Value→α→Prop} {w:World} {a:Option Addr} {len cap:Nat} {l:List α} (h:TabR sz R w a len cap l) {j:Nat} (hj:j≤len) :
 TabR sz R w (if cap=j then a else a.map (·.add (j*sz))) (len-j) (cap-j) (l.drop j):=by
 obtain⟨h1,h2,h3,hn,h4⟩:=h;refine⟨by simp;omega,by omega,by omega,(fun h=>by
  have:cap=0:=by
   by_cases e:cap=j
   ·rw[if_pos e] at h;exact hn h
   ·rw[if_neg e] at h;exact hn (by simpa using h)
  omega),?_⟩
 rcases h4 with h4|⟨b,off,rfl,h6,h7⟩
 ·exact .inl (by omega)
 ·by_cases e:cap=j
  ·exact .inl (by omega)
  ·refine .inr ⟨b,off+j*sz,by rw[if_neg e];simp[add_none],h6,fun i y hy=>?_⟩
   rw[List.getElem?_drop] at hy;obtain⟨cs,c1,c2,c3⟩:=h7 (j+i) y hy;refine⟨cs,c1,c2,fun k v hv=>?_⟩;rw[←c3 k v hv]
   congr 2
   rw[Nat.add_mul];omega
def RowInfo (P:Program) (e:TypeId) (sz bytes:Nat):Prop:=∃i z,P.info? e=some i∧i.zero=some z∧i.size=sz∧i.bytes=bytes∧z.cells.size=sz
theorem row_info {P:Program} {e:TypeId} {sz bytes:Nat} (h:(P.info? e).map (fun i=>(i.zero.map (·.cells.size),i.size,i.bytes))=some (some sz,sz,bytes)):RowInfo P e sz bytes:=by
 cases hi:P.info? e with
 | none=>rw[hi] at h;cases h
 | some i=>
  rw[hi] at h;simp only[Option.map_some,Option.some.injEq,Prod.mk.injEq] at h;obtain⟨h1,h2,h3⟩:=h;obtain⟨z,h4,h5⟩:=Option.map_eq_some_iff.1 h1;exact⟨i,z,hi,h4,h2,h3,h5⟩
theorem own_base {w:World} {B B':Nat} {e:TypeId} {size:Nat} {v:Value} {n:Nat} {xs:List Value} (h:w.ownsRow B e size v n xs) (hB:B'≤B):w.ownsRow B' e size v n xs:=
 ⟨h.1,h.2.imp id fun⟨g,cap,cur,e1,hg,r⟩=>⟨g,cap,cur,e1,Nat.le_trans hB hg,r⟩⟩
theorem own_held {w w':World} {base:Nat} {e:TypeId} {size:Nat} {v:Value} {n:Nat} {xs:List Value} (h:w.ownsRow base e size v n xs) (hb:Below w.heap.size w w'):w'.ownsRow base e size v n xs:=by
 refine⟨h.1,h.2.imp id fun⟨g,cap,cur,e1,hg,hh,r⟩=>⟨g,cap,cur,e1,hg,?_,r⟩⟩;rw[hb.block g (Array.getElem?_eq_some_iff.1 hh).1];exact hh
theorem own_nil (W:World) (t:TypeId) (sz base:Nat):W.ownsRow base t sz (.slice none 0 0) 0 []:=⟨by simp,.inl ⟨rfl,rfl⟩⟩
def NodeR (n:Nat) (w:World) (K:List (Cl 1)) (V:List (Cl 2)) (C:List (Cl 5)):Tr→Prop
 | .leaf _ l=>Tells IsKey K (keysOf l)∧Tells (IsTv w) V (l.map (·.2))∧C=[]
 | .node _ l=>Tells IsKey K (keysOf l)∧V=[]∧Tells (NodeIn n w) C (l.map (·.2))
theorem IsKey.one {cs:List Value} {y:List UInt8} (h:IsKey cs y):∀u∈cs,u.oneCell'=true:=by
 have h:cs=_:=h;subst h;intro u hu;simp at hu;subst hu;rfl
theorem IsTv.one {w:World} {cs:List Value} {v:Tv} (h:IsTv w cs v):∀u∈cs,u.oneCell'=true:=by
 obtain⟨a,n,c,rfl,_⟩:=h;intro u hu;simp at hu;rcases hu with rfl|rfl<;>rfl
theorem NodeIn.one {n:Nat} {w:World} {cs:List Value} {t:Tr} (h:NodeIn n w cs t):∀u∈cs,u.oneCell'=true:=by
 cases n with
 | zero=>exact h.elim
 | succ n=>
  cases t with
  | leaf p l=>
   obtain⟨ka,kn,kc,va,vn,vc,ca,cc,rfl,_⟩:=h;intro u hu;simp at hu;rcases hu with rfl|rfl|rfl|rfl|rfl<;>rfl
  | node p l=>
   obtain⟨ka,kn,kc,va,vc,ca,cn,cc,rfl,_⟩:=h;intro u hu;simp at hu;rcases hu with rfl|rfl|rfl|rfl|rfl<;>rfl
theorem unit_nil {α:Type} {sz:Nat} {R:List Value→α→Prop} {w:World} {a:Option Addr} {c:Nat} (h:TabR sz R w a 0 c []):Raw sz w a 0 c []:=⟨rfl,h.2.1,h.2.2.1,h.2.2.2.1,.inl rfl⟩
theorem nil_unit {α:Type} {sz:Nat} {R:List Value→α→Prop} {w:World} {a:Option Addr} {c:Nat} (h:Raw sz w a 0 c []):TabR sz R w a 0 c []:=⟨rfl,h.2.1,h.2.2.1,h.2.2.2.1,.inl rfl⟩
theorem NodeIn.open {n:Nat} {w:World} {cs:List Value} {t:Tr} (h:NodeIn (n+1) w cs t) :
 ∃ka kn kc va vn vc ca cn cc K V C,cs=[.int .i64 t.page,.bool t.isLeaf,.slice ka kn kc,.slice va vn vc,.slice ca cn cc]∧Raw 1 w ka kn kc K∧Raw 2 w va vn vc V∧Raw 5 w ca cn cc C∧NodeR n w K V C t:=by
 cases t with
 | leaf p l=>
  obtain⟨ka,kn,kc,va,vn,vc,ca,cc,e,h1,h2,h3⟩:=h;obtain⟨K,k1,k2⟩:=TabR.raw h1 (fun _ _ h=>h.one);obtain⟨V,v1,v2⟩:=TabR.raw h2 (fun _ _ h=>h.one);exact⟨ka,kn,kc,va,vn,vc,ca,0,cc,K,V,[],e,k1,v1,unit_nil h3,k2,v2,rfl⟩
 | node p l=>
  obtain⟨ka,kn,kc,va,vc,ca,cn,cc,e,h1,h2,h3⟩:=h;obtain⟨K,k1,k2⟩:=TabR.raw h1 (fun _ _ h=>h.one);obtain⟨C,c1,c2⟩:=TabR.raw h3 (fun _ _ h=>h.one);exact⟨ka,kn,kc,va,0,vc,ca,cn,cc,K,[],C,e,k1,unit_nil h2,c1,k2,rfl,c2⟩
theorem NodeR.keys {n:Nat} {w:World} {K:List (Cl 1)} {V:List (Cl 2)} {C:List (Cl 5)} {t:Tr} (h:NodeR n w K V C t):Tells IsKey K t.keys:=by
 cases t with
 | leaf p l=>exact h.1
 | node p l=>exact h.1
theorem keys_len (t:Tr):t.keys.length=cntT t:=by cases t<;>simp[Tr.keys,keysOf,cntT]
theorem NodeR.lens {n:Nat} {w:World} {K:List (Cl 1)} {V:List (Cl 2)} {C:List (Cl 5)} {t:Tr} (h:NodeR n w K V C t):K.length=cntT t∧V.length=(if t.isLeaf then cntT t else 0)∧C.length=(if t.isLeaf then 0 else cntT t):=by
 refine⟨by rw[h.keys.1,keys_len],?_⟩;cases t with
 | leaf p l=>exact⟨by rw[h.2.1.1];simp[Tr.isLeaf,cntT],by rw[h.2.2];simp[Tr.isLeaf]⟩
 | node p l=>exact⟨by rw[h.2.1];simp[Tr.isLeaf],by rw[h.2.2.1];simp[Tr.isLeaf,cntT]⟩
def kCell (k:List UInt8):Cl 1:=⟨[.string (strOf k)],rfl,by intro u hu;simp at hu;subst hu;rfl⟩
theorem Tells.key {K:List (Cl 1)} {l:List (List UInt8)} (h:Tells IsKey K l) {i:Nat} (hi:i<l.length):K[i]? = some (kCell (l[i]?.getD [])):=by
 have hk:i<K.length:=by rw[h.1];exact hi
 have hx:K[i]? = some K[i]:=List.getElem?_eq_getElem hk;have:=h.2 i _ _ hx (List.getElem?_eq_getElem hi);rw[hx,List.getElem?_eq_getElem hi]
 congr 1
 exact Subtype.ext this
theorem Tells.keys {K:List (Cl 1)} {l:List (List UInt8)} (h:Tells IsKey K l):K=l.map kCell:=by
 apply List.ext_getElem?;intro i
 by_cases hi:i<l.length
 ·rw[h.key hi];simp[hi]
 ·rw[List.getElem?_eq_none (by rw[h.1];omega),List.getElem?_eq_none (by simp;omega)]
theorem Raw.key_at {w:World} {a:Option Addr} {n c:Nat} {l:List (List UInt8)} (h:Raw 1 w a n c (l.map kCell)) {k:Nat} (hk:k<n) :
 ∃b off,a=some ⟨b,off,none⟩∧b<w.heap.size∧w.cell? ⟨b,off+k,none⟩=some (.string (strOf (l[k]?.getD []))):=by
 obtain⟨b,off,y,cs,e1,e2,e3,_,e5,e6⟩:=TabR.at h hk;have hl:=h.1;have hkl:k<l.length:=by simpa using(show k<(l.map kCell).length by omega)
 simp[hkl] at e3;subst e3;have e5:cs=_:=e5;subst e5;have:=e6 0 _ rfl;refine⟨b,off,e1,e2,?_⟩;simpa[hkl] using this
open Go.RowKit
theorem Below.al {a w:World} {o:Obj} (h:Below a.heap.size a w):Below a.heap.size a (w.alloc o):=h.alloc h.size o
theorem Below.dr {B:Nat} {a w:World} (h:Below B a w):Below B a w.drew:=h.drew
theorem Below.st {a w:World} {b i:Nat} {u:Value} (h:Below a.heap.size a w) (hb:a.heap.size≤b):Below a.heap.size a (w.setCell ⟨b,i,none⟩ u):=h.setCell hb _
theorem Boxes.al {w:World} {l:List (Nat×List Value)} {o:Obj} (h:Boxes w l):Boxes (w.alloc o) l:=h.step ((Below.refl _ _).alloc (Nat.le_refl _) o)
theorem Boxes.st {w:World} {l:List (Nat×List Value)} {b i:Nat} {u:Value} (h:Boxes w l) (hne:∀p∈l,p.1≠b):Boxes (w.setCell ⟨b,i,none⟩ u) l:=h.set ⟨b,i,none⟩ u hne
theorem below_via {a W w':World} (h1:Below a.heap.size a W) (h2:Below W.heap.size W w'):Below a.heap.size a w':=h1.trans (h2.mono h1.size)
def BoxAt (w:World) (b:Nat) (cs:Array Value):Prop:=∃t,w.heap[b]? = some (.cells cs t (0,0))
theorem BoxAt.here {w:World} {cs:Array Value} {t:TypeId}:BoxAt (w.alloc (.cells cs t)) w.heap.size cs:=⟨t,World.alloc_heap_new w (.cells cs t)⟩
theorem BoxAt.here2 {w:World} {o:Obj} {cs:Array Value} {t:TypeId}:BoxAt ((w.alloc o).alloc (.cells cs t)) (w.heap.size+1) cs:=by
 have:=World.alloc_heap_new (w.alloc o) (.cells cs t);exact⟨t,by simpa using this⟩
theorem BoxAt.here3 {w:World} {o o':Obj} {cs:Array Value} {t:TypeId}:BoxAt (((w.alloc o).alloc o').alloc (.cells cs t)) (w.heap.size+1+1) cs:=by
 have:=World.alloc_heap_new ((w.alloc o).alloc o') (.cells cs t);exact⟨t,by simpa using this⟩
theorem BoxAt.below {w w':World} {b:Nat} {cs:Array Value} (h:BoxAt w b cs) (hb:Below w.heap.size w w'):BoxAt w' b cs:=by
 obtain⟨t,ht⟩:=h;exact⟨t,(hb.block b (Array.getElem?_eq_some_iff.1 ht).1).trans ht⟩
theorem BoxAt.al {w:World} {b:Nat} {cs:Array Value} {o:Obj} (h:BoxAt w b cs):BoxAt (w.alloc o) b cs:=h.below ((Below.refl _ _).alloc (Nat.le_refl _) o)
theorem BoxAt.dr {w:World} {b:Nat} {cs:Array Value} (h:BoxAt w b cs):BoxAt w.drew b cs:=h
theorem BoxAt.cell {w:World} {b:Nat} {cs:Array Value} (h:BoxAt w b cs) {i:Nat} {v:Value} (hv:cs[i]? = some v):w.cell? ⟨b,i,none⟩=some v:=by
 obtain⟨t,ht⟩:=h;simp only[World.cell?,ht];exact hv
theorem BoxAt.lt {w:World} {b:Nat} {cs:Array Value} (h:BoxAt w b cs):b<w.heap.size:=by
 obtain⟨t,ht⟩:=h;exact(Array.getElem?_eq_some_iff.1 ht).1
theorem raw_box {sz:Nat} {w:World} {b:Nat} {L:List (Cl sz)} (h:BoxAt w b (flatC L).toArray) (hl:L.length≤1000):Raw sz w (some ⟨b,0,none⟩) L.length L.length L:=by
 refine⟨rfl,Nat.le_refl _,by unfold maxLen;omega,(fun h=>by cases h),.inr ⟨_,_,rfl,h.lt,fun i y hy=>⟨y.1,y.2.1,rfl,fun j v hv=>?_⟩⟩⟩;have:=flat_get (fun y:Cl sz=>y.1) sz (fun y=>y.2.1) L i y j v hy hv;rw[Nat.zero_add];exact h.cell (by simpa[flatC] using this)
open Go.RowKit
def Fa (F:Nat→Prop) (a:Option Addr) (n:Nat):Prop:=n=0∨∀b off,a=some ⟨b,off,none⟩→F b
theorem Fa.mono {F G:Nat→Prop} {a:Option Addr} {n:Nat} (h:Fa F a n) (hFG:∀b,F b→G b):Fa G a n:=h.imp id fun h b off e=>hFG b (h b off e)
theorem Fa.zero (F:Nat→Prop) (a:Option Addr):Fa F a 0:=.inl rfl
theorem Fa.of_own {F:Nat→Prop} {w:World} {base:Nat} {e:TypeId} {sz:Nat} {a:Option Addr} {n c m:Nat} {xs:List Value} (h:w.ownsRow base e sz (.slice a n c) m xs) (hF:∀b,base≤b→F b):Fa F a n:=by
 right
 intro b off e;subst e
 rcases h.2 with⟨h,_⟩|⟨g,cap,cur,h,hb,_⟩
 ·cases h
 ·cases h;exact hF _ hb
def AgreeF (F:Nat→Prop) (w w':World):Prop:=w.heap.size≤w'.heap.size∧∀b,F b→b<w.heap.size→w'.heap[b]? = w.heap[b]?
theorem AgreeF.of_below {F:Nat→Prop} {w w':World} (h:Below w.heap.size w w'):AgreeF F w w':=⟨h.size,fun b _ hb=>h.block b hb⟩
theorem AgreeF.trans {F:Nat→Prop} {a b c:World} (h:AgreeF F a b) (g:AgreeF F b c):AgreeF F a c:=⟨Nat.le_trans h.1 g.1,fun k hk hlt=>(g.2 k hk (Nat.lt_of_lt_of_le hlt h.1)).trans (h.2 k hk hlt)⟩
theorem AgreeF.set {F:Nat→Prop} {a w:World} (h:AgreeF F a w) {p:Addr} {u:Value} (hp:¬F p.block∨a.heap.size≤p.block):AgreeF F a (w.setCell p u):=by
 refine⟨by simpa using h.1,fun b hF hb=>?_⟩;rw[Below.heap_setCell w p u b (fun e=>by subst e;rcases hp with hp|hp;exact hp hF;omega)];exact h.2 b hF hb
theorem AgreeF.cell {F:Nat→Prop} {w w':World} (h:AgreeF F w w') {b o:Nat} (hF:F b) (hb:b<w.heap.size):w'.cell? ⟨b,o,none⟩=w.cell? ⟨b,o,none⟩:=World.cell?_of_block (h.2 b hF hb)
theorem TabR.agree {α:Type} {sz:Nat} {R R':List Value→α→Prop} {F:Nat→Prop} {w w':World} {a:Option Addr} {len cap:Nat} {l:List α} (h:TabR sz R w a len cap l) (hF:Fa F a len) (ha:AgreeF F w w') (hR:∀cs y,y∈l→R cs y→R' cs y):TabR sz R' w' a len cap l:=by
 obtain⟨h1,h2,h3,hn,h4⟩:=h;refine⟨h1,h2,h3,hn,?_⟩
 rcases h4 with h4|⟨b,off,h5,h6,h7⟩
 ·exact .inl h4
 ·rcases hF with hF|hF
  ·exact .inl hF
  ·exact .inr ⟨b,off,h5,Nat.lt_of_lt_of_le h6 ha.1,fun i y hy=>by
    obtain⟨cs,c1,c2,c3⟩:=h7 i y hy;exact⟨cs,c1,hR _ _ (List.mem_of_getElem? hy) c2,fun j v hv=>(ha.cell (hF b off h5) h6).trans (c3 j v hv)⟩⟩
theorem Row.agree {k:IntKind} {F:Nat→Prop} {w w':World} {a:Option Addr} {len cap:Nat} {l:List Int} (h:Row k w a len cap l) (hF:Fa F a len) (ha:AgreeF F w w'):Row k w' a len cap l:=by
 obtain⟨h1,h2,h3,hn,h4⟩:=h;refine⟨h1,h2,h3,hn,?_⟩
 rcases h4 with h4|⟨b,off,h5,h6,h7⟩
 ·exact .inl h4
 ·rcases hF with hF|hF
  ·exact .inl hF
  ·exact .inr ⟨b,off,h5,Nat.lt_of_lt_of_le h6 ha.1,fun i hi=>(ha.cell (hF b off h5) h6).trans (h7 i hi)⟩
theorem TabR.block {α:Type} {sz:Nat} {R:List Value→α→Prop} {w:World} {a:Option Addr} {len cap:Nat} {l:List α} (h:TabR sz R w a len cap l):Fa (fun b=>b<w.heap.size) a len:=by
 rcases h.2.2.2.2 with h4|⟨b,off,h5,h6,_⟩
 ·exact .inl h4
 ·exact .inr fun b' off' e=>by rw[h5] at e;cases e;exact h6
theorem Row.block {k:IntKind} {w:World} {a:Option Addr} {len cap:Nat} {l:List Int} (h:Row k w a len cap l):Fa (fun b=>b<w.heap.size) a len:=by
 rcases h.2.2.2.2 with h4|⟨b,off,h5,h6,_⟩
 ·exact .inl h4
 ·exact .inr fun b' off' e=>by rw[h5] at e;cases e;exact h6
theorem Fa.and {F G:Nat→Prop} {a:Option Addr} {n:Nat} (h:Fa F a n) (g:Fa G a n):Fa (fun b=>F b∧G b) a n:=by
 rcases h with h|h
 ·exact .inl h
 ·rcases g with g|g
  ·exact .inl g
  ·exact .inr fun b off e=>⟨h b off e,g b off e⟩
theorem unit_any {α β:Type} {sz:Nat} {R:List Value→α→Prop} {R':List Value→β→Prop} {w w':World} {a:Option Addr} {c:Nat} (h:TabR sz R w a 0 c []):TabR sz R' w' a 0 c []:=⟨rfl,h.2.1,h.2.2.1,h.2.2.2.1,.inl rfl⟩
def TvOn (F:Nat→Prop) (w:World) (cs:List Value) (v:Tv):Prop:=∃a n c,cs=[.string (strOf v.data),.slice a n c]∧Row .i64 w a n c v.pages∧Fa F a n
theorem TvOn.toIn {F:Nat→Prop} {w:World} {cs:List Value} {v:Tv} (h:TvOn F w cs v):IsTv w cs v:=by
 obtain⟨a,n,c,e,h1,_⟩:=h;exact⟨a,n,c,e,h1⟩
theorem TvOn.agree {F:Nat→Prop} {w w':World} {cs:List Value} {v:Tv} (h:TvOn F w cs v) (ha:AgreeF F w w'):TvOn F w' cs v:=by
 obtain⟨a,n,c,e,h1,h2⟩:=h;exact⟨a,n,c,e,h1.agree h2 ha,h2⟩
theorem TvOn.mono {F G:Nat→Prop} {w:World} {cs:List Value} {v:Tv} (h:TvOn F w cs v) (hFG:∀b,F b→G b):TvOn G w cs v:=by
 obtain⟨a,n,c,e,h1,h2⟩:=h;exact⟨a,n,c,e,h1,h2.mono hFG⟩
def NodeOn (F:Nat→Prop):Nat→World→List Value→Tr→Prop
 | 0,_,_,_=>False
 | _+1,w,cs,.leaf p l=>∃ka kn kc va vn vc ca cc,cs=[.int .i64 p,.bool true,.slice ka kn kc,.slice va vn vc,.slice ca 0 cc]∧KeysIn w ka kn kc (keysOf l)∧Fa F ka kn∧TabR 2 (TvOn F w) w va vn vc (l.map (·.2))∧Fa F va vn∧TabR 5 (fun _ (_:Unit)=>True) w ca 0 cc []
 | n+1,w,cs,.node p l=>∃ka kn kc va vc ca cn cc,cs=[.int .i64 p,.bool false,.slice ka kn kc,.slice va 0 vc,.slice ca cn cc]∧KeysIn w ka kn kc (keysOf l)∧Fa F ka kn∧TabR 2 (fun _ (_:Unit)=>True) w va 0 vc []∧TabR 5 (NodeOn F n w) w ca cn cc (l.map (·.2))∧Fa F ca cn
theorem NodeOn.toIn {F:Nat→Prop}:∀{n:Nat} {w:World} {cs:List Value} {t:Tr},NodeOn F n w cs t→NodeIn n w cs t
 | 0,_,_,_,h=>h.elim
 | _+1,_,_,.leaf p l,h=>by
  obtain⟨ka,kn,kc,va,vn,vc,ca,cc,e,h1,_,h2,_,h3⟩:=h;exact⟨ka,kn,kc,va,vn,vc,ca,cc,e,h1,TabR.mono h2 (fun _ _ h=>h.toIn),h3⟩
 | n+1,_,_,.node p l,h=>by
  obtain⟨ka,kn,kc,va,vc,ca,cn,cc,e,h1,_,h2,h3,_⟩:=h;exact⟨ka,kn,kc,va,vc,ca,cn,cc,e,h1,h2,TabR.mono h3 (fun _ _ h=>NodeOn.toIn h)⟩
theorem NodeOn.agree {F:Nat→Prop}:∀{n:Nat} {w w':World} {cs:List Value} {t:Tr},NodeOn F n w cs t→AgreeF F w w'→NodeOn F n w' cs t
 | 0,_,_,_,_,h,_=>h.elim
 | _+1,_,_,_,.leaf p l,h,ha=>by
  obtain⟨ka,kn,kc,va,vn,vc,ca,cc,e,h1,f1,h2,f2,h3⟩:=h;exact⟨ka,kn,kc,va,vn,vc,ca,cc,e,TabR.agree h1 f1 ha (fun _ _ _ h=>h),f1,TabR.agree h2 f2 ha (fun _ _ _ h=>h.agree ha),f2,unit_any h3⟩
 | n+1,_,_,_,.node p l,h,ha=>by
  obtain⟨ka,kn,kc,va,vc,ca,cn,cc,e,h1,f1,h2,h3,f3⟩:=h;exact⟨ka,kn,kc,va,vc,ca,cn,cc,e,TabR.agree h1 f1 ha (fun _ _ _ h=>h),f1,unit_any h2,TabR.agree h3 f3 ha (fun _ _ _ h=>NodeOn.agree h ha),f3⟩
theorem NodeOn.below {F:Nat→Prop} {n:Nat} {w w':World} {cs:List Value} {t:Tr} (h:NodeOn F n w cs t) (hb:Below w.heap.size w w'):NodeOn F n w' cs t:=h.agree (.of_below hb)
theorem NodeOn.mono {F G:Nat→Prop} (hFG:∀b,F b→G b):∀{n:Nat} {w:World} {cs:List Value} {t:Tr},NodeOn F n w cs t→NodeOn G n w cs t
 | 0,_,_,_,h=>h.elim
 | _+1,_,_,.leaf p l,h=>by
  obtain⟨ka,kn,kc,va,vn,vc,ca,cc,e,h1,f1,h2,f2,h3⟩:=h;exact⟨ka,kn,kc,va,vn,vc,ca,cc,e,h1,f1.mono hFG,TabR.mono h2 (fun _ _ h=>h.mono hFG),f2.mono hFG,h3⟩
 | n+1,_,_,.node p l,h=>by
  obtain⟨ka,kn,kc,va,vc,ca,cn,cc,e,h1,f1,h2,h3,f3⟩:=h;exact⟨ka,kn,kc,va,vc,ca,cn,cc,e,h1,f1.mono hFG,h2,TabR.mono h3 (fun _ _ h=>NodeOn.mono hFG h),f3.mono hFG⟩
theorem NodeOn.lt {F:Nat→Prop}:∀{n:Nat} {w:World} {cs:List Value} {t:Tr},NodeOn F n w cs t→NodeOn (fun b=>F b∧b<w.heap.size) n w cs t
 | 0,_,_,_,h=>h.elim
 | _+1,_,_,.leaf p l,h=>by
  obtain⟨ka,kn,kc,va,vn,vc,ca,cc,e,h1,f1,h2,f2,h3⟩:=h;exact⟨ka,kn,kc,va,vn,vc,ca,cc,e,h1,f1.and (TabR.block h1),TabR.mono h2 (fun _ _ h=>by obtain⟨a,n,c,e,h,f⟩:=h;exact⟨a,n,c,e,h,f.and h.block⟩),f2.and (TabR.block h2),h3⟩
 | n+1,_,_,.node p l,h=>by
  obtain⟨ka,kn,kc,va,vc,ca,cn,cc,e,h1,f1,h2,h3,f3⟩:=h;exact⟨ka,kn,kc,va,vc,ca,cn,cc,e,h1,f1.and (TabR.block h1),h2,TabR.mono h3 (fun _ _ h=>NodeOn.lt h),f3.and (TabR.block h3)⟩
theorem NodeOn.more {F:Nat→Prop}:∀{n m:Nat} {w:World} {cs:List Value} {t:Tr},NodeOn F n w cs t→n≤m→NodeOn F m w cs t
 | 0,_,_,_,_,h,_=>h.elim
 | n+1,0,_,_,_,_,h=>by omega
 | _+1,_+1,_,_,.leaf p l,h,_=>h
 | n+1,m+1,_,_,.node p l,h,hm=>by
  obtain⟨ka,kn,kc,va,vc,ca,cn,cc,e,h1,f1,h2,h3,f3⟩:=h;exact⟨ka,kn,kc,va,vc,ca,cn,cc,e,h1,f1,h2,TabR.mono h3 (fun _ _ h=>NodeOn.more h (by omega)),f3⟩
def NodeRF (F:Nat→Prop) (n:Nat) (w:World) (K:List (Cl 1)) (V:List (Cl 2)) (C:List (Cl 5)):Tr→Prop
 | .leaf _ l=>Tells IsKey K (keysOf l)∧Tells (TvOn F w) V (l.map (·.2))∧C=[]
 | .node _ l=>Tells IsKey K (keysOf l)∧V=[]∧Tells (NodeOn F n w) C (l.map (·.2))
theorem NodeOn.one {F:Nat→Prop} {n:Nat} {w:World} {cs:List Value} {t:Tr} (h:NodeOn F n w cs t):∀u∈cs,u.oneCell'=true:=h.toIn.one
theorem NodeOn.open {F:Nat→Prop} {n:Nat} {w:World} {cs:List Value} {t:Tr} (h:NodeOn F (n+1) w cs t) :
 ∃ka kc va vn vc ca cn cc V C,cs=[.int .i64 t.page,.bool t.isLeaf,.slice ka (cntT t) kc,.slice va vn vc,.slice ca cn cc]∧Raw 1 w ka (cntT t) kc (t.keys.map kCell)∧Raw 2 w va vn vc V∧Raw 5 w ca cn cc C∧NodeRF F n w (t.keys.map kCell) V C t∧Fa F ka (cntT t)∧Fa F va vn∧Fa F ca cn:=by
 cases t with
 | leaf p l=>
  obtain⟨ka,kn,kc,va,vn,vc,ca,cc,e,h1,f1,h2,f2,h3⟩:=h;obtain⟨K,k1,k2⟩:=TabR.raw h1 (fun _ _ h=>h.one);obtain⟨V,v1,v2⟩:=TabR.raw h2 (fun _ _ h=>h.toIn.one);obtain rfl:=k2.keys;have hn:=k1.1;simp[keysOf] at hn;subst hn;exact⟨ka,kc,va,vn,vc,ca,0,cc,V,[],e,k1,v1,unit_nil h3,⟨k2,v2,rfl⟩,f1,f2,Fa.zero _ _⟩
 | node p l=>
  obtain⟨ka,kn,kc,va,vc,ca,cn,cc,e,h1,f1,h2,h3,f3⟩:=h;obtain⟨K,k1,k2⟩:=TabR.raw h1 (fun _ _ h=>h.one);obtain⟨C,c1,c2⟩:=TabR.raw h3 (fun _ _ h=>h.one);obtain rfl:=k2.keys;have hn:=k1.1;simp[keysOf] at hn;subst hn;exact⟨ka,kc,va,0,vc,ca,cn,cc,[],C,e,k1,unit_nil h2,c1,⟨k2,rfl,c2⟩,f1,Fa.zero _ _,f3⟩
theorem NodeOn.shut {F:Nat→Prop} {n:Nat} {w:World} {t:Tr} {ka:Option Addr} {kn kc:Nat} {va:Option Addr} {vn vc:Nat} {ca:Option Addr} {cn cc:Nat} {V:List (Cl 2)} {C:List (Cl 5)} {p:Int} {lf:Bool} {K:List (Cl 1)}
 (hp:t.page=p) (hl:t.isLeaf=lf) (hk:t.keys.map kCell=K) (h1:Raw 1 w ka kn kc K) (h2:Raw 2 w va vn vc V) (h3:Raw 5 w ca cn cc C) (f1:Fa F ka kn) (f2:Fa F va vn) (f3:Fa F ca cn) (h:NodeRF F n w (t.keys.map kCell) V C t) :
 NodeOn F (n+1) w [.int .i64 p,.bool lf,.slice ka kn kc,.slice va vn vc,.slice ca cn cc] t:=by
 subst hp hl hk;cases t with
 | leaf p l=>
  obtain⟨g1,g2,rfl⟩:=h;have:=h3.1;simp at this;subst this;exact⟨ka,kn,kc,va,vn,vc,ca,cc,rfl,h1.tab g1,f1,h2.tab g2,f2,nil_unit h3⟩
 | node p l=>
  obtain⟨g1,rfl,g2⟩:=h;have:=h2.1;simp at this;subst this;exact⟨ka,kn,kc,va,vc,ca,cn,cc,rfl,h1.tab g1,f1,nil_unit h2,h3.tab g2,f3⟩
def Fr (F:Nat→Prop) (w:World) (b:Nat):Prop:=F b∨w.heap.size≤b
theorem Fr.old {F:Nat→Prop} {w:World} (b:Nat) (h:F b):Fr F w b:=.inl h
def NodeTo (F:Nat→Prop) (n:Nat) (w:World) (t:Tr) (e:Ending) (w':World):Prop:=∃cs,e=.returned (.agg cs.toArray)∧NodeOn (Fr F w) n w' cs t∧Below w.heap.size w w'
end Go.Proofs.YtpghlmcoajaiiaaGreatDoor
