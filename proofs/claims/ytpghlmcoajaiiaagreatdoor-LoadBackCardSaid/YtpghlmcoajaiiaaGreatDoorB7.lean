/- Texts that other texts of this claim lean on, one behind the other. -/
import Derived.Test.YtpghlmcoajaiiaaGreatDoorB1
import Derived.Test.YtpghlmcoajaiiaaGreatDoorB6
import Derived.Test.YtpghlmcoajaiiaaGreatDoorB3
import Derived.Test.YtpghlmcoajaiiaaGreatDoorB2
import Derived.Laws.EntriesVeiled
import Derived.Laws.StructEq
import Derived.Deep.RegionLaw
import Derived.Deep.RegionHeld3
import Derived.Outline
import Derived.Test.YtpghlmcoajaiiaaGreatDoorB4
import Derived.Deep.DeepCutAuto
import Derived.Deep.RegionWith
set_option maxHeartbeats 20000000
set_option maxRecDepth 100000
namespace Go.Proofs.YtpghlmcoajaiiaaGreatDoor
open Go.RowKit
def Fits (n:Nat) (t:Tr):Prop:=(∃lo hi,Shape n lo hi t)∧Bare t∧sumT t≤122∧freshN n t≠0∧∀p l,t=.node p l→2≤l.length
theorem fits_kid {n:Nat} {t:Tr} {lo hi:List UInt8} (h:Shape n lo hi t) (hb:Bare t) (h30:30≤sumT t) (h1:sumT t≤122):Fits n t:=by
 refine⟨⟨lo,hi,h⟩,hb,h1,?_,fun p l e=>?_⟩
 ·cases n with
  | zero=>exact h.elim
  | succ n=>
   cases t with
   | leaf p l=>
    have hne:l≠[]:=fun e=>by subst e;simp[sumT,sizesT,sumI] at h30
    rw[freshN,if_neg hne];omega
   | node p l=>rw[freshN];omega
 ·subst e
  cases n with
  | zero=>exact h.elim
  | succ n=>
   obtain⟨g1,g2⟩:=h;have hne:=List.length_pos_iff.2 (kids_ne g1);have:l.length≠1:=fun e=>by rw[sumI_kids l p e g2] at h30;omega
   omega
theorem fits_kids {n:Nat} {p:Int} {l:List (List UInt8×Tr)} (h:Fits (n+1) (.node p l)):∀c∈l,Fits n c.2:=fun c hc=>by
 obtain⟨⟨lo,hi,h1,_⟩,hb,_⟩:=h;obtain⟨lo',hi',g1,g2,g3⟩:=kids_each h1 c hc;exact fits_kid g1 ((bare_kids hb).2 c hc) g2 g3
theorem layT_page {N n:Nat} {t:Tr} {s:List Int} (h:Fits n t) (hs:Spots N s) (hl:freshN n t≤s.length):∃p,(layT n t s).1.page=p∧p∈s.take (freshN n t)∧pgC p=true∧p<N:=by
 obtain⟨⟨lo,hi,h1⟩,_,_,h0,_⟩:=h;have hin:∀k,k<freshN n t→(s.drop k).headD 0∈s.take (freshN n t):=fun k hk=>by
  have e:s.drop k=s[k]'(by omega)::s.drop (k+1):=List.drop_eq_getElem_cons (by omega);rw[e];show s[k]'(by omega)∈_;refine List.mem_of_getElem? (i:=k) ?_;rw[List.getElem?_take_of_lt hk];exact List.getElem?_eq_getElem _
 have hall:∀k,k<freshN n t→∃p,(s.drop k).headD 0=p∧p∈s.take (freshN n t)∧pgC p=true∧p<N:=fun k hk=>
  ⟨_,rfl,hin k hk,hs.2 _ (List.mem_of_mem_take (hin k hk))⟩
 cases n with
 | zero=>exact h1.elim
 | succ n=>
  cases t with
  | leaf p l=>
   have hne:l≠[]:=fun e=>by rw[freshN,if_pos e] at h0;exact h0 rfl
   rw[layT,if_neg hne];show ∃p,(layVs l s).2.2.headD 0=p∧_;rw[layVs_left];exact hall _ (by rw[freshN,if_neg hne];omega)
  | node p l=>
   rw[layT];show ∃p,(layKs (layT n) l s).2.2.headD 0=p∧_;rw[layKs_left (fun t s=>layT_left n t s)];exact hall _ (by rw[freshN];omega)
theorem layKs_cons {f:Tr→List Int→Tr×List Wr×List Int} {c:List UInt8×Tr} {r:List (List UInt8×Tr)} {s:List Int} :
 layKs f (c::r) s=((c.1,(f c.2 s).1)::(layKs f r (f c.2 s).2.2).1,(f c.2 s).2.1++(layKs f r (f c.2 s).2.2).2.1,(layKs f r (f c.2 s).2.2).2.2):=by
 rw[layKs]
theorem layKs_facts {N n:Nat}:∀{l:List (List UInt8×Tr)} {s:List Int},(∀c∈l,c.1.length≤16∧Fits n c.2)→Spots N s→(l.map fun c=>freshN n c.2).sum≤s.length →
 ((layKs (layT n) l s).1.map entK).map (fun e=>e.key)=keysOf l∧(∀e∈(layKs (layT n) l s).1.map entK,pageB e.v.page=true∧e.v=⟨[],false,0,e.v.page⟩)∧((layKs (layT n) l s).1.map entK).length=l.length∧((l.length+lens (cellsN false ((layKs (layT n) l s).1.map entK)):Nat):Int)=sumI (sizesT (.node 0 l))
 | [],s,_,_,_=>by simp[layKs,keysOf,cellsN,lens,sizesT,sumI]
 | c::r9,s,hp,hs,hl=>by
  have hc:=hp c (by simp);simp only[List.map_cons,List.sum_cons] at hl;have hlf:(layT n c.2 s).2.2=s.drop (freshN n c.2):=layT_left n c.2 s;obtain⟨p,e1,e2,e3,e4⟩:=layT_page hc.2 hs (by omega);obtain⟨i1,i2,i3,i4⟩:=layKs_facts (l:=r9) (s:=s.drop (freshN n c.2)) (fun c hc=>hp c (List.mem_cons_of_mem _ hc)) (hs.drop _) (by rw[List.length_drop];omega);rw[layKs_cons,hlf];refine⟨?_,fun x hx=>?_,by simpa using i3,?_⟩
  ·simp only[List.map_cons,keysOf] at i1 ⊢
   rw[i1];rfl
  ·simp only[List.map_cons] at hx
   rcases List.mem_cons.1 hx with rfl|hx
   ·refine⟨?_,rfl⟩
    show pageB (layT n c.2 s).1.page=true;rw[e1];exact e3
   ·exact i2 x hx
  ·have h5:(cellN false (entK (c.1,(layT n c.2 s).1))).length+1=4+c.1.length:=by
    unfold cellN;have:=hc.1;rw[List.length_append,textF_length,encV_length,Nat.min_eq_left (by show c.1.length≤255;omega),if_neg (by decide)];show c.1.length+1+2+1=_;omega
   simp only[List.map_cons,cellsN,lens_cons,sizesT,sumI_cons,List.length_cons] at i4 ⊢;have i5:(List.map (cellN false) (List.map entK (layKs (layT n) r9 (List.drop (freshN n c.snd) s)).fst))=cellsN false (List.map entK (layKs (layT n) r9 (List.drop (freshN n c.snd) s)).fst):=rfl;rw[i5] at i4 ⊢;omega
theorem nil_lt {k:List UInt8} (h:k≠[]):([]:List UInt8)<k:=by
 cases k with
 | nil=>exact absurd rfl h
 | cons x y=>exact List.Lex.nil
theorem node_nodeB {N n:Nat} {l:List (List UInt8×Tr)} {s:List Int} {p:Int} (h:Fits (n+1) (.node p l)) (hs:Spots N s) (hl:(l.map fun c=>freshN n c.2).sum≤s.length):nodeB false ((layKs (layT n) l s).1.map entK)=true:=by
 have hks:=fits_kids h;obtain⟨⟨lo,hi,h1,hk0⟩,hb,hsum,_,h2⟩:=h;have hlen:=h2 p l rfl;obtain⟨c,r9,rfl⟩:∃c r,l=c::r:=by
  cases l with
  | nil=>simp at hlen
  | cons c r=>exact⟨c,r,rfl⟩
 have hc1:c.1=[]:=hk0;obtain⟨k1,k2⟩:=kids_all h1;have hkeys:(keysOf (c::r9)).Pairwise (fun a b=>a<b):=by
  unfold keysOf;rw[List.map_cons,List.pairwise_cons];refine⟨fun x hx=>?_,k1⟩;obtain⟨d,hd,rfl⟩:=List.mem_map.1 hx;rw[hc1];exact nil_lt (k2 d hd).1.1
 obtain⟨i1,i2,i3,i4⟩:=layKs_facts (n:=n) (N:=N) (l:=c::r9) (s:=s) (fun d hd=>⟨by
  rcases List.mem_cons.1 hd with rfl|hd
  ·rw[hc1];simp
  ·exact(k2 d hd).1.2,hks d hd⟩) hs hl
 obtain⟨es,hes⟩:∃x,(layKs (layT n) (c::r9) s).1.map entK=x:=⟨_,rfl⟩
 rw[hes] at i1 i2 i3 i4 ⊢;unfold nodeB;rw[upN_of (fun i hi=>by
  have hm:=i2 _ (List.getElem_mem hi);have hkey:es[i].key=(keysOf (c::r9))[i]'(by rw[←i1];simpa using hi):=by
   have:∀(L:List (List UInt8)) (e:es.map (fun e=>e.key)=L) (hi2:i<L.length),es[i].key=L[i]:=fun L e hi2=>by subst e;simp
   exact this _ i1 _
  show mayB i es[i]=true;unfold mayB;rw[hm.1];have hv:(es[i].v == ⟨[],false,0,es[i].v.page⟩)=true:=by
   rw[beq_iff_eq];exact hm.2
  rw[hv];simp only[Bool.and_true];unfold firstB;rw[hkey];cases i with
  | zero=>rw[if_pos rfl];simp[keysOf,hc1]
  | succ i=>
   rw[if_neg (by omega)];have hi2:i<r9.length:=by rw[i3] at hi;simpa using hi
   have:(keysOf (c::r9))[i+1]'(by simp[keysOf];exact hi2)=(r9[i]'hi2).1:=by simp[keysOf]
   rw[this];exact keyB_of (k2 _ (List.getElem_mem hi2)).1) (by rw[i1];exact hkeys),Bool.true_and,Bool.and_eq_true,decide_eq_true_eq,decide_eq_true_eq,i3]
 have hsum':sumI (sizesT (.node 0 (c::r9)))≤122:=hsum;exact⟨by show 2≤_;exact hlen,by omega⟩
theorem kids_back {N n:Nat} {f:Nat→List UInt8} {F:List Int→Int→Except Int (List Int×Tr)} {Q:Tr→Prop}
 (IH:∀t,Q t→∀s seen,Spots N s→freshN n t≤s.length→Stand f (layT n t s).2.1→(∀p∈s.take (freshN n t),p∉seen)→∃seen',F seen (layT n t s).1.page=.ok (seen',(layT n t s).1)∧∀p∈seen',p∈seen∨p∈s.take (freshN n t)) :
 ∀{l:List (List UInt8×Tr)} {s seen:List Int},(∀c∈l,Q c.2)→Spots N s→(l.map fun c=>freshN n c.2).sum≤s.length→Stand f (layKs (layT n) l s).2.1→(∀p∈s.take (l.map fun c=>freshN n c.2).sum,p∉seen) →
 ∃seen',kidsL F seen ((layKs (layT n) l s).1.map entK)=.ok (seen',(layKs (layT n) l s).1)∧∀p∈seen',p∈seen∨p∈s.take (l.map fun c=>freshN n c.2).sum
 | [],s,seen,_,_,_,_,_=>⟨seen,by simp[layKs,kidsL],fun p hp=>.inl hp⟩
 | c::r9,s,seen,hQ,hs,hl,hw,hd=>by
  simp only[List.map_cons,List.sum_cons] at hl hd ⊢;rw[List.take_add] at hd ⊢;rw[layKs_cons] at hw ⊢;have hlf:(layT n c.2 s).2.2=s.drop (freshN n c.2):=layT_left n c.2 s;rw[hlf] at hw ⊢;obtain⟨s1,g1,g2⟩:=IH c.2 (hQ c (by simp)) s seen hs (by omega) hw.left (fun p hp=>hd p (List.mem_append_left _ hp));obtain⟨s2,g3,g4⟩:=kids_back IH (l:=r9) (s:=s.drop (freshN n c.2)) (seen:=s1) (fun c hc=>hQ c (List.mem_cons_of_mem _ hc)) (hs.drop _) (by rw[List.length_drop];omega) hw.right (fun p hp hm=>by
   rcases g2 p hm with h|h
   ·exact hd p (List.mem_append_right _ hp) h
   ·exact hs.apart _ (List.mem_of_mem_take hp) h)
  refine⟨s2,?_,fun p hp=>?_⟩
  ·rw[List.map_cons,kidsL_ok (e:=entK (c.1,(layT n c.2 s).1)) g1,g3]
   rfl
  ·rcases g4 p hp with h|h
   ·rcases g2 p h with h|h
    ·exact .inl h
    ·exact .inr (List.mem_append_left _ h)
   ·exact .inr (List.mem_append_right _ h)
theorem load_back {d:List Rg} {r N:Nat} {f:Nat→List UInt8} (hd:RegAt d r N f):∀(n m:Nat),n≤m→∀t,Fits n t→∀s seen,Spots N s→freshN n t≤s.length→Stand f (layT n t s).2.1→(∀p∈s.take (freshN n t),p∉seen) →
 ∃seen',loadT d r m seen (layT n t s).1.page=.ok (seen',(layT n t s).1)∧∀p∈seen',p∈seen∨p∈s.take (freshN n t)
 | 0,_,_,t,h,_,_,_,_,_,_=>by obtain⟨⟨_,_,h1⟩,_⟩:=h;exact h1.elim
 | n+1,0,hm,_,_,_,_,_,_,_,_=>by omega
 | n+1,m+1,hm,t,h,s,seen,hs,hl,hw,hsn=>by
  obtain⟨p0,e0,hp0,hpg,hpN⟩:=layT_page h hs hl;have hp2:=pgC_lt hpg;have hpd:pagedE d r p0=0:=by rw[hd.paged,if_pos ⟨by omega,hpN⟩]
  have hrd:readB d r p0=f p0.toNat:=hd.read ⟨by omega,hpN⟩;have hns:=hsn p0 hp0;rw[e0];cases t with
  | leaf p l=>
   obtain⟨⟨lo,hi,hn0,hlo⟩,hb,hsum,h0,_⟩:=h;have hne:l≠[]:=fun e=>by rw[freshN,if_pos e] at h0;exact h0 rfl
   obtain⟨_,hbv⟩:=bare_vals hb;rw[freshN,if_neg hne] at hl hsn ⊢;rw[layT,if_neg hne] at e0 hw ⊢;have e0':(layVs l s).2.2.headD 0=p0:=e0;rw[e0'] at hw ⊢;have hnb:=leaf_nodeB hlo hbv hs (by omega) hne hsum;have hpage:f p0.toNat=putN true ((layVs l s).1.map entV):=hw.right (p0,_) (List.mem_singleton.2 rfl);obtain⟨q1,q2,q3⟩:=get_putN hnb;have hbk:=vals_back hd (s:=s) (seen:=seen++[p0]) hbv hs (by omega) hw.left (fun q hq hm9=>by
    exact q627618)
   refine⟨_,by
    unfold loadT;rw[if_neg hns,if_neg (by rw[hpd];decide),hrd,hpage,if_neg (by rw[q1];decide),q3,if_pos rfl,q2,hbk],fun q hq=>?_⟩
   rcases List.mem_append.1 hq with h|h
   ·rcases List.mem_append.1 h with h|h
    ·exact .inl h
    ·rw[List.mem_singleton.1 h]
     rw[freshN,if_neg hne] at hp0;exact .inr hp0
   ·exact .inr (by rw[Nat.add_comm,List.take_add];exact List.mem_append_left _ h)
  | node p l=>
   have hks:=fits_kids h;rw[freshN] at hl hsn hp0 ⊢;rw[layT] at e0 hw ⊢;have e0':(layKs (layT n) l s).2.2.headD 0=p0:=e0;rw[e0'] at hw ⊢;have hnb:=node_nodeB h hs (by omega);have hpage:f p0.toNat=putN false ((layKs (layT n) l s).1.map entK):=hw.right (p0,_) (List.mem_singleton.2 rfl);obtain⟨q1,q2,q3⟩:=get_putN hnb;obtain⟨s2,g1,g2⟩:=kids_back (n:=n) (F:=loadT d r m) (Q:=Fits n) (fun t hQ s seen h1 h2 h3 h4=>load_back hd n m (by omega) t hQ s seen h1 h2 h3 h4) (l:=l) (s:=s) (seen:=seen++[p0]) hks hs (by omega) hw.left (fun q hq hm9=>by
    exact qb001f6)
   refine⟨s2,by
    unfold loadT;rw[if_neg hns,if_neg (by rw[hpd];decide),hrd,hpage,if_neg (by rw[q1];decide),q3,if_neg (by decide),q2,g1],fun q hq=>?_⟩
   rcases g2 q hq with h|h
   ·rcases List.mem_append.1 h with h|h
    ·exact .inl h
    ·rw[List.mem_singleton.1 h]
     exact .inr hp0
   ·exact .inr (by rw[Nat.add_comm,List.take_add];exact List.mem_append_left _ h)
def ValPost (T:Nat) (w:World) (lb mb da M:Nat) (d:List Rg) (r:Int) (R:Except Int (List Int×Tv)) (e:Ending) (w':World):Prop:=
 Only [mb] w w'∧match R with
  | .ok (s,x)=>∃v,e=.returned (.agg #[.string (strOf x.data),v])∧TvOn (fun b=>w.heap.size≤b) w' [.string (strOf x.data),v] x∧LdIn T w' lb mb da M d r s
  | .error x=>e=.panicked (errP x)
theorem row_at {k:IntKind} {w w':World} {a:Option Addr} {len cap:Nat} {l:List Int} (h:Row k w a len cap l) (hs:w.heap.size≤w'.heap.size) (hne:∀x,a=some x→w'.heap[x.block]? = w.heap[x.block]?):Row k w' a len cap l:=by
 obtain⟨h1,h2,h3,h4,h5⟩:=h;refine⟨h1,h2,h3,h4,h5.imp id ?_⟩;rintro⟨b,off,rfl,hb,hc⟩;exact⟨b,off,rfl,by omega,fun i hi=>(show w'.cell? ⟨b,off+i,none⟩=w.cell? ⟨b,off+i,none⟩ from World.cell?_of_block (hne ⟨b,off,none⟩ rfl)).trans (hc i hi)⟩
theorem below_only {w w1 w2:World} {mb:Nat} (h:Below w.heap.size w w1) (k:Only [mb] w1 w2):Only [mb] w w2:=(Only.of_below h).trans k
theorem value_any {T:Nat} {w:World} {lb mb da M:Nat} {d:List Rg} {r:Int} {seen:List Int} (h:LdIn T w lb mb da M d r seen) (hT:T≤w.heap.size) (hl:seen.length≤1000) (v:Vv) (hp:I64 v.page) :
 Calls Tryz.prog 97 #[.pointer (some ⟨lb,0,none⟩),.agg #[.string (strOf v.data),.bool v.far,.int .i64 v.size,.int .i64 v.page]] w (ValPost T w lb mb da M d r (valL d r seen v)):=by
 obtain⟨vd,vf,vs,vp⟩:=v;obtain⟨w1,hw1⟩:∃w1,(w.alloc (.cells #[.string (strOf vd),.bool vf,.int .i64 vs,.int .i64 vp] 209)).alloc (.cells #[.string ⟨#[]⟩,.slice none 0 0] 101)=w1:=⟨_,rfl⟩
 have hx1:Boxes w1 [(w.heap.size+1,[.string ⟨#[]⟩,.slice none 0 0]),(w.heap.size,[.string (strOf vd),.bool vf,.int .i64 vs,.int .i64 vp])]:=by
  rw[←hw1];exact((Boxes.nil w).alloc #[.string (strOf vd),.bool vf,.int .i64 vs,.int .i64 vp] 209 (b:=w.heap.size) rfl).alloc #[.string ⟨#[]⟩,.slice none 0 0] 101 (b:=w.heap.size+1) (by simp)
 have hb1:Below w.heap.size w w1:=by rw[←hw1];exact Below.al (Below.al (Below.refl _ _))
 have hd1:=h.below hT hb1;have hmb:=h.lt.2;have hlb:=h.lt.1;cases vf with
 | false=>
  have v0:=hx1.cell 1 0 rfl rfl;have v1:=hx1.cell 1 1 rfl rfl;have hx2:=(hx1.put 0 (.string (strOf vd)) (by intro q hq;simp at hq;subst hq;simp)).put 1 (.slice none 0 0) (by intro q hq;simp at hq;subst hq;simp);have z0:=hx2.cell 0 0 rfl rfl;have z1:=hx2.cell 0 1 rfl rfl;have k0:=hx1.cell 0 0 rfl rfl;have k1:=hx1.cell 0 1 rfl rfl;have f0:=hx1.frozen 0 0 rfl;have f1:=hx1.frozen 0 1 rfl;have HE:Hid (ValPost T w lb mb da M d r (valL d r seen ⟨vd,false,vs,vp⟩) (.returned (.agg #[.string (strOf vd),.slice none 0 0])) ((w1.setCell ⟨w.heap.size+1,0,none⟩ (.string (strOf vd))).setCell ⟨w.heap.size+1,1,none⟩ (.slice none 0 0))):=Hd (by
   have hb2:Below w.heap.size w ((w1.setCell ⟨w.heap.size+1,0,none⟩ (.string (strOf vd))).setCell ⟨w.heap.size+1,1,none⟩ (.slice none 0 0)):=(hb1.setCell (by show w.heap.size≤w.heap.size+1;omega) _).setCell (by show w.heap.size≤w.heap.size+1;omega) _;refine⟨Only.of_below hb2,?_⟩;unfold valL;rw[if_pos rfl];exact⟨_,rfl,⟨none,0,0,rfl,⟨rfl,by simp,by unfold maxLen;omega,fun _=>rfl,.inl rfl⟩,.inl rfl⟩,h.below hT hb2⟩)
  clear hd1 hx1 hx2 h hb1;go_enter Tryz.func97,Tryz.ntmps97;go_wp2_with fail;refine bodyPost_ret (v:=.agg #[.string (strOf vd),.slice none 0 0]) (by simp[results,Tryz.results97,go_sem,z0,z1]) rfl ?_;exact HE.out
 | true=>
  obtain⟨c0,c1,_⟩:=hd1.cell;have hlt1:=hd1.lt.1;have hx0:=hx1.lt 1 rfl;have o2:=hx1.cell 1 2 rfl rfl;have o3:=hx1.cell 1 3 rfl rfl;have v1:=hx1.cell 1 1 rfl rfl;have cA:∀W,Below w1.heap.size w1 W→W.cell? ⟨lb,0,none⟩=some (.pointer (some ⟨da,0,none⟩)):=fun W hW=>(hW.cell (p:=⟨lb,0,none⟩) hlt1).trans c0
  have cB:∀W,Below w1.heap.size w1 W→W.cell? ⟨lb,1,none⟩=some (.int .i64 r):=fun W hW=>(hW.cell (p:=⟨lb,1,none⟩) hlt1).trans c1
  have cC:∀W,Below w1.heap.size w1 W→W.cell? ⟨w.heap.size,2,none⟩=some (.int .i64 vs):=fun W hW=>(hW.cell (p:=⟨w.heap.size,2,none⟩) hx0).trans o2
  have cD:∀W,Below w1.heap.size w1 W→W.cell? ⟨w.heap.size,3,none⟩=some (.int .i64 vp):=fun W hW=>(hW.cell (p:=⟨w.heap.size,3,none⟩) hx0).trans o3
  have hb0:Below w1.heap.size w1 w1.drew:=below_drewN (Below.refl _ _) 1;have C:=cget_any (hd1.below (Nat.le_trans hT hb1.size) hb0).one (hd1.below (Nat.le_trans hT hb1.size) hb0).half r vp vs hp;obtain⟨G,hG⟩:∃G,getDC d r vp vs=G:=⟨_,rfl⟩
  have hat:=getDC_at d r vp vs;have hval:valL d r seen ⟨vd,true,vs,vp⟩=if G.2.2≠0 then .error G.2.2 else match seeL seen G.2.1 with
   | none=>.error 11
   | some s=>.ok (s,⟨G.1,G.2.1⟩):=by
   unfold valL;rw[if_neg (by simp),hG]
   rfl
  rw[hG] at C hat;have HVAL:=Hd hval;have HAT:=Hd hat;have HX1:=Hd hx1;have HD1:=Hd hd1;have HB1:=Hd hb1;have HH:=Hd h;obtain⟨Gs,Gl,Ge⟩:=G;clear hval hat hx1 hd1 hb1 h hG c0 c1 o2 o3;go_enter Tryz.func97,Tryz.ntmps97;go_wp2_with fail
  go_region_held3 (fun W=>Below w1.heap.size w1 W) (with_reducible assumption) (first|(go_at_call 141;refine C.mono ?_;rintro e wx ⟨vx,rfl,hox,hbx⟩;have hBx:Below w1.heap.size w1 wx:=below_then hb0 hbx))
  have HBX:=Hd hBx;obtain⟨av,cv,rfl,_⟩:=own_slice hox;have HOX:=Hd hox;clear C cA cB cC cD hox hbx hBx hb0
  by_cases hE:Ge=0
  ·subst hE
   have hdx:=HD1.out.below (Nat.le_trans hT HB1.out.size) HBX.out;obtain⟨a',c',e',hrow⟩:=Row.of_own HOX.out;cases e';have hsz:=HBX.out.size;have hsz1:=HB1.out.size;have S5:=see_any (ps:=Gl) hdx (by have h5:Gl.length≤5:=HAT.out.2;omega) (fun p hq=>by
    rcases HAT.out.1 p hq with e|e
    ·rw[e];exact hp
    ·have:=pgC_lt e;unfold I64;omega) hrow (fun x ex=>by
    have h6:w1.heap.size≤x.block:=own_ge HOX.out x.block (by rw[ex];rfl);omega)
   go_wp2_with fail;refine(must_ok _).mono ?_;rintro e wy ⟨rfl,rfl⟩;go_wp2_with fail;refine S5.mono ?_;rintro e w4 ⟨ho4,hres⟩;cases hs:seeL seen Gl with
   | none=>
    rw[hs] at hres;have hres:e=.panicked (errP 11):=hres;subst hres;refine⟨rfl,?_⟩;rw[HVAL.out];refine⟨below_only (HB1.out.trans (HBX.out.mono hsz1)) ho4,?_⟩;rw[if_neg (by simp),hs]
   | some s=>
    rw[hs] at hres;obtain⟨rfl,hd4⟩:=hres;have hx4:=(HX1.out.step HBX.out).only ho4 (by intro q hq;simp at hq;rcases hq with rfl|rfl<;>simp<;>omega);have hsz4:=ho4.size;have f0:=hx4.frozen 0 0 rfl;have f1:=hx4.frozen 0 1 rfl;have k0:=hx4.cell 0 0 rfl rfl;have k1:=hx4.cell 0 1 rfl rfl;have hx5:=(hx4.put 0 (.string (strOf Gs)) (by intro q hq;simp at hq;subst hq;simp)).put 1 (.slice av Gl.length cv) (by intro q hq;simp at hq;subst hq;simp);have z0:=hx5.cell 0 0 rfl rfl;have z1:=hx5.cell 0 1 rfl rfl;have HE:Hid (ValPost T w lb mb da M d r (valL d r seen ⟨vd,true,vs,vp⟩) (.returned (.agg #[.string (strOf Gs),.slice av Gl.length cv])) ((w4.setCell ⟨w.heap.size+1,0,none⟩ (.string (strOf Gs))).setCell ⟨w.heap.size+1,1,none⟩ (.slice av Gl.length cv))):=Hd (by
     have hb5:Below w.heap.size w4 ((w4.setCell ⟨w.heap.size+1,0,none⟩ (.string (strOf Gs))).setCell ⟨w.heap.size+1,1,none⟩ (.slice av Gl.length cv)):=((Below.refl _ _).setCell (by show w.heap.size≤w.heap.size+1;omega) _).setCell (by show w.heap.size≤w.heap.size+1;omega) _;have ho:Only [mb] w w4:=below_only (HB1.out.trans (HBX.out.mono hsz1)) ho4;refine⟨⟨hb5.os.trans ho.1,hb5.tape.trans ho.2.1,hb5.output.trans ho.2.2.1,Nat.le_trans ho.size hb5.size,fun k hk hS=>(hb5.block k hk).trans (ho.block hk hS)⟩,?_⟩;rw[HVAL.out,if_neg (by simp),hs];have hrow4:=row_only hrow ho4 (fun x ex=>by
      have h6:w1.heap.size≤x.block:=own_ge HOX.out x.block (by rw[ex];rfl);omega)
     refine⟨_,rfl,⟨av,_,cv,rfl,?_,?_⟩,hd4.past (hb5.mono hT)⟩
     ·exact row_at hrow4 hb5.size (fun x ex=>by
       have h6:w1.heap.size≤x.block:=own_ge HOX.out x.block (by rw[ex];rfl);have h7:=HX1.out.lt 0 rfl;have h8:w.heap.size+1<w1.heap.size:=h7;exact(Below.heap_setCell _ _ _ x.block (fun e=>by have:x.block=w.heap.size+1:=e;omega)).trans (Below.heap_setCell _ _ _ x.block (fun e=>by have:x.block=w.heap.size+1:=e;omega)))
     ·exact Fa.of_own HOX.out (fun b hb=>Nat.le_trans hsz1 hb))
    clear hx4 hx5 hrow hd4 hdx hs S5;go_wp2_with fail;refine bodyPost_ret (v:=.agg #[.string (strOf Gs),.slice av Gl.length cv]) (by simp[results,Tryz.results97,go_sem,z0,z1]) rfl ?_;exact HE.out
  ·go_wp2_with fail
   refine(must_bad hE _).mono ?_;rintro e wy ⟨rfl,rfl⟩;refine⟨rfl,?_⟩;rw[HVAL.out];refine⟨Only.of_below (HB1.out.trans (HBX.out.mono HB1.out.size)),?_⟩;rw[if_pos hE]
open Go.RowKit
theorem info_sK:RowInfo Tryz.prog 9 1 16:=row_info (by kernel_rfl)
theorem info_vK:RowInfo Tryz.prog 101 2 40:=row_info (by kernel_rfl)
theorem info_nK:RowInfo Tryz.prog 50 5 88:=row_info (by kernel_rfl)
open Go.RowKit
structure LMid (T:Nat) (w wB:World) (lb mb da M:Nat) (d:List Rg) (r:Int) (seen:List Int) (ob rb B m:Nat) (p:Int) (lf:Bool) (v1 v2 v3:Value) (K:List (List UInt8)) (V:List Tv) (C:List Tr) (wr:World):Prop where
 box:Boxes wr [(ob,[.int .i64 p,.bool lf,v1,v2,v3]),(rb,zero5.toList)]
 rows:NodeRows 9 101 50 (fun _=>False) m B wr v1 v2 v3 K V C
 ld:LdIn T wr lb mb da M d r seen
 ag:AgreeF (fun x=>x<B∧x≠mb∧x≠ob) wB wr
 ol:Only [mb] w wr
 tw:T≤w.heap.size
 tr:w.heap.size≤rb
 ro:rb<ob
 ob_:ob<B
 bb:B≤wB.heap.size
section
variable {T:Nat} {w wB wr w':World} {lb mb da M:Nat} {d:List Rg} {r:Int} {seen s2:List Int} {ob rb B m:Nat} {p:Int} {lf:Bool} {v1 v2 v3:Value} {K:List (List UInt8)} {V:List Tv} {C:List Tr}
theorem only_past {w w1 w2:World} {mb N:Nat} (h:Only [mb] w w1) (hN:w.heap.size≤N) (hb:Below N w1 w2):Only [mb] w w2:=
 ⟨hb.os.trans h.1,hb.tape.trans h.2.1,hb.output.trans h.2.2.1,Nat.le_trans h.size hb.size,fun k hk hS=>(hb.block k (by omega)).trans (h.block hk hS)⟩
theorem LMid.lt (h:LMid T w wB lb mb da M d r seen ob rb B m p lf v1 v2 v3 K V C wr):ob<wr.heap.size∧B≤wr.heap.size:=⟨h.box.lt 0 rfl,Nat.le_trans h.bb h.ag.1⟩
theorem LMid.below (h:LMid T w wB lb mb da M d r seen ob rb B m p lf v1 v2 v3 K V C wr) (hb:Below wr.heap.size wr w'):LMid T w wB lb mb da M d r seen ob rb B m p lf v1 v2 v3 K V C w' where
 box:=h.box.step hb
 rows:=h.rows.below hb
 ld:=h.ld.past (hb.mono (by have:=h.lt;have:=h.tw;have:=h.tr;have:=h.ro;have:=h.ob_;omega))
 ag:=h.ag.trans (AgreeF.of_below hb)
 ol:=only_past h.ol h.ol.size hb
 tw:=h.tw
 tr:=h.tr
 ro:=h.ro
 ob_:=h.ob_
 bb:=h.bb
theorem LMid.turn (h:LMid T w wB lb mb da M d r seen ob rb B m p lf v1 v2 v3 K V C wr) (ho:Only [mb] wr w') (hl:LdIn T w' lb mb da M d r s2):LMid T w wB lb mb da M d r s2 ob rb B m p lf v1 v2 v3 K V C w' where
 box:=h.box.only ho (by have:=h.ld.tm;have:=h.tw;have:=h.tr;have:=h.ro;intro q hq;simp at hq;rcases hq with rfl|rfl<;>simp<;>omega)
 rows:=h.rows.agree ⟨ho.size,fun b hb hlt=>ho.block hlt (by have:=h.ld.tm;have:=h.tw;have:=h.tr;have:=h.ro;have:=h.ob_;rcases hb with hb|hb;exact hb.elim;simp;omega)⟩
 ld:=hl
 ag:=h.ag.trans ⟨ho.size,fun b hb hlt=>ho.block hlt (by simp;exact hb.2.1)⟩
 ol:=h.ol.trans ho
 tw:=h.tw
 tr:=h.tr
 ro:=h.ro
 ob_:=h.ob_
 bb:=h.bb
theorem LMid.pushK (h:LMid T w wB lb mb da M d r seen ob rb B m p lf v1 v2 v3 K V C wr) (hl:K.length≤1000) (key:List UInt8) :
 ∃a c w',(Builtin.append_ #[46,46] 46 #[v1,.slice (some ⟨wr.heap.size,0,none⟩) 1 1]).run Tryz.prog (wr.alloc (.cells #[.string (strOf key)] 9))=.ok (.slice a (K.length+1) c) w'∧AgreeF (fun x=>v1.ownBlock≠some x∧x≠ob) wr w' ∧
  w'.cell? ⟨ob,2,none⟩=some v1∧w'.frozen? ⟨ob,2,none⟩=false ∧
  AgreeF (fun x=>v1.ownBlock≠some x∧x≠ob) wr (w'.setCell ⟨ob,2,none⟩ (.slice a (K.length+1) c))∧LMid T w wB lb mb da M d r seen ob rb B m p lf (.slice a (K.length+1) c) v2 v3 (K++[key]) V C (w'.setCell ⟨ob,2,none⟩ (.slice a (K.length+1) c)):=by
 have hlt:=h.lt;have htw:=h.tw;have htr:=h.tr;have hro:=h.ro;have hob:=h.ob_;have htm:=h.ld.tm;have hbb:=h.bb;have hr:=h.rows;obtain⟨v',w',hrun,hg,ht,hn⟩:=hr.pushK (P:=Tryz.prog) Tryz.underlying46 info_sK (by decide) (by omega) (by omega) key;obtain⟨a,c,_,_,_,_,rfl,_,_⟩:=hn.sl;rw[List.length_append] at *;have hag:AgreeF (fun x=>v1.ownBlock≠some x∧x≠ob) wr w':=⟨hg.size,fun x hx hlt=>hg.block x hlt (fun e=>hx.1 e.symm)⟩
 have hge:∀g,v1.ownBlock=some g→B≤g:=fun g hg=>(hr.k.lt hg).1
 have hx':=h.box.grown hg (by intro q hq e;have:=hge _ e;simp at hq;rcases hq with rfl|rfl<;>simp at this<;>omega);have hp1:Below B wr w':=(Below.refl _ _).grown hg hlt.2 hge;have hp2:Below ob wr w':=hp1.mono (Nat.le_of_lt hob);have hp:Below ob wr (w'.setCell ⟨ob,2,none⟩ (.slice a (K.length+1) c)):=hp2.setCell (Nat.le_refl ob) _;refine⟨a,c,w',hrun,hag,hx'.cell 0 2 rfl rfl,hx'.frozen 0 2 rfl,AgreeF.set hag (.inl fun h=>h.2 rfl),⟨hx'.put 2 _ (by intro q hq;simp at hq;subst hq;simp;omega),hn.set hob (fun hf=>hf),h.ld.past (hp.mono (by omega)),h.ag.trans (AgreeF.set ⟨hp1.size,fun x hx _=>hp1.block x hx.1⟩ (.inl fun h=>h.2.2 rfl)),only_past h.ol (by omega) hp,htw,htr,hro,hob,hbb⟩⟩
theorem LMid.pushV (h:LMid T w wB lb mb da M d r seen ob rb B m p lf v1 v2 v3 K V C wr) (hl:V.length≤1000) {e0 e1:Value} {tv:Tv} (hy:TvOn (G3 (fun _=>False) B v1 v2 v3) wr [e0,e1] tv) :
 ∃a c w',(Builtin.append_ #[47,47] 47 #[v2,.slice (some ⟨wr.heap.size,0,none⟩) 1 1]).run Tryz.prog (wr.alloc (.cells #[e0,e1] 101))=.ok (.slice a (V.length+1) c) w'∧AgreeF (fun x=>v2.ownBlock≠some x∧x≠ob) wr w' ∧
  w'.cell? ⟨ob,3,none⟩=some v2∧w'.frozen? ⟨ob,3,none⟩=false ∧
  AgreeF (fun x=>v2.ownBlock≠some x∧x≠ob) wr (w'.setCell ⟨ob,3,none⟩ (.slice a (V.length+1) c))∧LMid T w wB lb mb da M d r seen ob rb B m p lf v1 (.slice a (V.length+1) c) v3 K (V++[tv]) C (w'.setCell ⟨ob,3,none⟩ (.slice a (V.length+1) c)):=by
 have hlt:=h.lt;have htw:=h.tw;have htr:=h.tr;have hro:=h.ro;have hob:=h.ob_;have htm:=h.ld.tm;have hbb:=h.bb;have hr:=h.rows;obtain⟨v',w',hrun,hg,ht,hn⟩:=hr.pushV (P:=Tryz.prog) Tryz.underlying47 info_vK (by decide) (by omega) (by omega) hy;obtain⟨_,_,a,c,_,_,_,rfl,_⟩:=hn.sl;rw[List.length_append] at *;have hag:AgreeF (fun x=>v2.ownBlock≠some x∧x≠ob) wr w':=⟨hg.size,fun x hx hlt=>hg.block x hlt (fun e=>hx.1 e.symm)⟩
 have hge:∀g,v2.ownBlock=some g→B≤g:=fun g hg=>(hr.v.lt hg).1
 have hx':=h.box.grown hg (by intro q hq e;have:=hge _ e;simp at hq;rcases hq with rfl|rfl<;>simp at this<;>omega);have hp1:Below B wr w':=(Below.refl _ _).grown hg hlt.2 hge;have hp2:Below ob wr w':=hp1.mono (Nat.le_of_lt hob);have hp:Below ob wr (w'.setCell ⟨ob,3,none⟩ (.slice a (V.length+1) c)):=hp2.setCell (Nat.le_refl ob) _;refine⟨a,c,w',hrun,hag,hx'.cell 0 3 rfl rfl,hx'.frozen 0 3 rfl,AgreeF.set hag (.inl fun h=>h.2 rfl),⟨hx'.put 3 _ (by intro q hq;simp at hq;subst hq;simp;omega),hn.set hob (fun hf=>hf),h.ld.past (hp.mono (by omega)),h.ag.trans (AgreeF.set ⟨hp1.size,fun x hx _=>hp1.block x hx.1⟩ (.inl fun h=>h.2.2 rfl)),only_past h.ol (by omega) hp,htw,htr,hro,hob,hbb⟩⟩
theorem LMid.pushC (h:LMid T w wB lb mb da M d r seen ob rb B m p lf v1 v2 v3 K V C wr) (hl:C.length≤1000) {x0 x1 x2 x3 x4:Value} {kid:Tr} (hy:NodeOn (G3 (fun _=>False) B v1 v2 v3) m wr [x0,x1,x2,x3,x4] kid) :
 ∃a c w',(Builtin.append_ #[48,48] 48 #[v3,.slice (some ⟨wr.heap.size,0,none⟩) 1 1]).run Tryz.prog (wr.alloc (.cells #[x0,x1,x2,x3,x4] 50))=.ok (.slice a (C.length+1) c) w'∧AgreeF (fun x=>v3.ownBlock≠some x∧x≠ob) wr w' ∧
  w'.cell? ⟨ob,4,none⟩=some v3∧w'.frozen? ⟨ob,4,none⟩=false ∧
  AgreeF (fun x=>v3.ownBlock≠some x∧x≠ob) wr (w'.setCell ⟨ob,4,none⟩ (.slice a (C.length+1) c))∧LMid T w wB lb mb da M d r seen ob rb B m p lf v1 v2 (.slice a (C.length+1) c) K V (C++[kid]) (w'.setCell ⟨ob,4,none⟩ (.slice a (C.length+1) c)):=by
 have hlt:=h.lt;have htw:=h.tw;have htr:=h.tr;have hro:=h.ro;have hob:=h.ob_;have htm:=h.ld.tm;have hbb:=h.bb;have hr:=h.rows;obtain⟨v',w',hrun,hg,ht,hn⟩:=hr.pushC (P:=Tryz.prog) Tryz.underlying48 info_nK (by decide) (by omega) (by omega) hy;obtain⟨_,_,_,_,a,c,_,_,rfl⟩:=hn.sl;rw[List.length_append] at *;have hag:AgreeF (fun x=>v3.ownBlock≠some x∧x≠ob) wr w':=⟨hg.size,fun x hx hlt=>hg.block x hlt (fun e=>hx.1 e.symm)⟩
 have hge:∀g,v3.ownBlock=some g→B≤g:=fun g hg=>(hr.c.lt hg).1
 have hx':=h.box.grown hg (by intro q hq e;have:=hge _ e;simp at hq;rcases hq with rfl|rfl<;>simp at this<;>omega);have hp1:Below B wr w':=(Below.refl _ _).grown hg hlt.2 hge;have hp2:Below ob wr w':=hp1.mono (Nat.le_of_lt hob);have hp:Below ob wr (w'.setCell ⟨ob,4,none⟩ (.slice a (C.length+1) c)):=hp2.setCell (Nat.le_refl ob) _;refine⟨a,c,w',hrun,hag,hx'.cell 0 4 rfl rfl,hx'.frozen 0 4 rfl,AgreeF.set hag (.inl fun h=>h.2 rfl),⟨hx'.put 4 _ (by intro q hq;simp at hq;subst hq;simp;omega),hn.set hob (fun hf=>hf),h.ld.past (hp.mono (by omega)),h.ag.trans (AgreeF.set ⟨hp1.size,fun x hx _=>hp1.block x hx.1⟩ (.inl fun h=>h.2.2 rfl)),only_past h.ol (by omega) hp,htw,htr,hro,hob,hbb⟩⟩
end
open Go.RowKit
def vcells (v:Vv):List Value:=[.string (strOf v.data),.bool v.far,.int .i64 v.size,.int .i64 v.page]
def ecells (e:En):List Value:=.string (strOf e.key)::vcells e.v
def vv (v:Vv):Value:=.agg #[.string (strOf v.data),.bool v.far,.int .i64 v.size,.int .i64 v.page]
def ev (e:En):Value:=.agg #[.string (strOf e.key),.string (strOf e.v.data),.bool e.v.far,.int .i64 e.v.size,.int .i64 e.v.page]
theorem keyB_ne {k:List UInt8} (h:k≠[]):keyB k=decide ((k.length:Int)≤16):=by
 have e:(k != [])=true:=by simpa using h
 rw[keyB,e,Bool.true_and];exact decide_eq_decide.2 (by omega)
theorem key_any (k:List UInt8) (w:World) (hl:k.length≤9223372036854775807) :
 Calls Tryz.prog 233 #[.string (strOf k)] w fun e w'=>e=.returned (.bool (keyB k))∧w=w':=by
 have hst:=strOf_toList;have hsz:=strOf_size k
 by_cases h:k=[]
 ·subst h
  go_enter Tryz.func233,Tryz.ntmps233;exact q72c811
 ·have hb:(k == [])=false:=by simpa using h
  go_enter Tryz.func233,Tryz.ntmps233
  go_wp2
  all_goals
   go_ret;exact⟨ret_bool (keyB_ne h).symm,rfl⟩
theorem page_any (n:Int) (w:World) :
 Calls Tryz.prog 234 #[.int .i64 n] w fun e w'=>e=.returned (.bool (pageB n))∧w=w':=by
 go_enter Tryz.func234,Tryz.ntmps234
 go_wp2
 all_goals
  go_ret;exact⟨ret_bool (by simp[pageB, *];try omega),rfl⟩
theorem wrap_u64N (n:Int):IntKind.u64.wrap n=(u64N n:Int):=by
 simp[IntKind.wrap,IntKind.signed,IntKind.bits];unfold u64N;omega
theorem two_any (n:Int) (w:World) :
 Calls Tryz.prog 235 #[.int .i64 n] w (OwnBytes 5 w (two n)):=by
 have h:Calls Tryz.prog 64 #[.int .u64 (u64N n:Int),.int .i64 2] w (OwnBytes 5 w (beBytes (u64N n) 2)):=num_ok (u64N n) 2 w (u64N_lt n) (by decide) (by decide);have hw:=wrap_u64N n;unfold two;generalize u64N n=x at *;go_enter Tryz.func235,Tryz.ntmps235;go_wp2_with fail
 (with_reducible refine h.mono ?_)
 rintro e w' ⟨v,rfl,hown,hb⟩
 go_wp2
 go_ret;exact⟨v,rfl,hown,hb⟩
theorem kind_any (leaf:Bool) (v:Value) (w:World) :
 Calls Tryz.prog 174 #[.agg #[.bool leaf,v]] w fun e w'=>e=.returned (.int .u8 ((kindN leaf).toNat:Int))∧Below w.heap.size w w':=by
 cases leaf
 all_goals
  go_enter Tryz.func174,Tryz.ntmps174
  go_wp2
  go_ret;exact⟨rfl,(Below.refl _ _).alloc (Nat.le_refl _) _⟩
def shapeL:List Value:=[.nilIface,.iface 273 (.agg #[]),.iface 315 (.agg #[])]
def ShapesPost (w:World) (e:Ending) (w':World):Prop:=∃b,e=.returned (.slice (some ⟨b,0,none⟩) 3 3)∧Boxes w' [(b,shapeL)]∧Below w.heap.size w w'
theorem shapes_any (w:World):Calls Tryz.prog 139 #[] w (ShapesPost w):=by
 have hB:=(Below.refl w.heap.size w).alloc (Nat.le_refl _) (.cells #[.nilIface,.iface 273 (.agg #[]),.iface 315 (.agg #[])] 271);have BX:=(Boxes.nil w).alloc #[.nilIface,.iface 273 (.agg #[]),.iface 315 (.agg #[])] 271 rfl;go_enter Tryz.func139,Tryz.ntmps139
 go_wp2
 go_ret;exact⟨_,rfl,BX,hB⟩
theorem leastL_any (w:World) :
 Calls Tryz.prog 229 #[.agg #[]] w fun e w'=>e=.returned (.int .i64 1)∧Below w.heap.size w w':=by
 go_enter Tryz.func229,Tryz.ntmps229
 go_wp2
 go_ret;exact⟨rfl,(Below.refl _ _).alloc (Nat.le_refl _) _⟩
theorem leastB_any (w:World) :
 Calls Tryz.prog 236 #[.agg #[]] w fun e w'=>e=.returned (.int .i64 2)∧Below w.heap.size w w':=by
 go_enter Tryz.func236,Tryz.ntmps236
 go_wp2
 go_ret;exact⟨rfl,(Below.refl _ _).alloc (Nat.le_refl _) _⟩
theorem m_putL (w:World):(method 472 273 (.agg #[]) "jalousie/node.put").run Tryz.prog w=.ok (231,.agg #[]) w:=by kernel_rfl
theorem m_putB (w:World):(method 472 315 (.agg #[]) "jalousie/node.put").run Tryz.prog w=.ok (238,.agg #[]) w:=by kernel_rfl
theorem m_takeL (w:World):(method 472 273 (.agg #[]) "jalousie/node.take").run Tryz.prog w=.ok (232,.agg #[]) w:=by kernel_rfl
theorem m_takeB (w:World):(method 472 315 (.agg #[]) "jalousie/node.take").run Tryz.prog w=.ok (239,.agg #[]) w:=by kernel_rfl
theorem m_mayL (w:World):(method 472 273 (.agg #[]) "jalousie/node.may").run Tryz.prog w=.ok (230,.agg #[]) w:=by kernel_rfl
theorem m_mayB (w:World):(method 472 315 (.agg #[]) "jalousie/node.may").run Tryz.prog w=.ok (237,.agg #[]) w:=by kernel_rfl
theorem m_leastL (w:World):(method 472 273 (.agg #[]) "jalousie/node.least").run Tryz.prog w=.ok (229,.agg #[]) w:=by kernel_rfl
theorem m_leastB (w:World):(method 472 315 (.agg #[]) "jalousie/node.least").run Tryz.prog w=.ok (236,.agg #[]) w:=by kernel_rfl
open Go.RowKit
theorem ret_b {a b:Bool} {w w':World} {B:Nat} (h:a=b) (hb:Below B w w'):Ending.returned (.bool a)=.returned (.bool b)∧Below B w w':=⟨by rw[h],hb⟩
theorem below_one (w:World) (o:Obj):Below w.heap.size w (w.alloc o):=(Below.refl _ _).alloc (Nat.le_refl _) o
theorem below_two' (w:World) (o p:Obj):Below w.heap.size w ((w.alloc o).alloc p):=(below_one w o).alloc (by simp) p
theorem below_three (w:World) (o p q:Obj):Below w.heap.size w (((w.alloc o).alloc p).alloc q):=(below_two' w o p).alloc (by simp;omega) q
theorem mayL_any (e:En) (i:Int) (w:World) (hl:e.key.length≤9223372036854775807) :
 Calls Tryz.prog 230 #[.agg #[],.int .i64 i,ev e] w fun en w'=>en=.returned (.bool (mayL e))∧Below w.heap.size w w':=by
 obtain⟨k,d,f,s,p⟩:=e;have K:=fun W=>key_any k W hl
 have P:=fun W=>page_any p W
 have hst:=strOf_toList;have hsz:=strOf_size d;unfold ev;cases hk:keyB k<;>cases hp:pageB p<;>cases f
 all_goals
  rw[hk] at K;rw[hp] at P;go_enter Tryz.func230,Tryz.ntmps230
  go_wp2_with (first|(go_at_call 233;(with_reducible refine(K _).mono ?_);rintro e w' ⟨rfl,rfl⟩)|(go_at_call 234;(with_reducible refine(P _).mono ?_);rintro e w' ⟨rfl,rfl⟩))
  all_goals
   go_ret;exact ret_b (by simp[mayL, *]<;>omega) (below_three w _ _ _)
theorem veq_any (v u:Vv) (w:World) :
 (binOp .eql 209 (vv v) (vv u)).run Tryz.prog w=.ok (.bool (v == u)) w:=by
 obtain⟨a,b,c,d⟩:=v;obtain⟨a',b',c',d'⟩:=u
 by_cases h1:a=a'<;>by_cases h2:b=b'<;>by_cases h3:c=c'<;>by_cases h4:d=d'<;>simp[vv,go_sem,strOf_toList,h1,h2,h3,h4]
theorem veq_page (v:Vv) (w:World) :
 (binOp .eql 209 (.agg #[.string (strOf v.data),.bool v.far,.int .i64 v.size,.int .i64 v.page]) (.agg #[.string ⟨#[]⟩,.bool false,.int .i64 0,.int .i64 v.page])).run Tryz.prog w=.ok (.bool (v == ⟨[],false,0,v.page⟩)) w:=
 veq_any v ⟨[],false,0,v.page⟩ w
theorem mayB_any (e:En) (i:Nat) (w:World) (hl:e.key.length≤9223372036854775807) :
 Calls Tryz.prog 237 #[.agg #[],.int .i64 (i:Int),ev e] w fun en w'=>en=.returned (.bool (mayB i e))∧Below w.heap.size w w':=by
 obtain⟨k,v⟩:=e;have K:=fun W=>key_any k W hl
 have P:=fun W=>page_any v.page W
 have hst:=strOf_toList;have hv:=fun W=>veq_page v W
 have hB:=below_two' w (.cells #[] 315) (.cells #[.string (strOf k),.string (strOf v.data),.bool v.far,.int .i64 v.size,.int .i64 v.page] 211);have hM:mayB i ⟨k,v⟩=(firstB i k && (pageB v.page && v == ⟨[],false,0,v.page⟩)):=rfl;have HM:=Hd hM;have HB:=Hd hB;clear hM hB;unfold ev;generalize (v == ⟨[],false,0,v.page⟩)=vb at *
 by_cases hi:i=0
 ·subst hi
  have hf:firstB 0 k=(k == []):=rfl;cases hk:(k == [])<;>cases hp:pageB v.page
  all_goals
   have HF:=Hd (hf.trans hk);rw[hp] at P HM;clear hf;exact q0707a3
 ·have hi0:((i:Int) == 0)=false:=by simpa using hi
  have hi1:decide ((0:Int)<(i:Int))=true:=by simp;omega
  have hf:firstB i k=keyB k:=by rw[firstB,if_neg hi]
  cases hk:keyB k<;>cases hp:pageB v.page
  all_goals
   have HF:=Hd (hf.trans hk);rw[hp] at P HM;rw[hk] at K;clear hf hk;exact q0707a3
open Go.RowKit
theorem putB_any (v:Vv) (w:World) :
 Calls Tryz.prog 238 #[.agg #[],vv v] w (OwnBytes 5 w (encV false v)):=by
 have hB:=below_two' w (.cells #[] 315) (.cells #[.string (strOf v.data),.bool v.far,.int .i64 v.size,.int .i64 v.page] 209);have T:=fun W=>two_any v.page W
 show Calls _ _ _ _ (OwnBytes 5 w (two v.page));unfold vv;go_enter Tryz.func238,Tryz.ntmps238;go_wp2_with fail;refine(T _).mono ?_;rintro e w' ⟨v',rfl,hown,hb⟩;have hown:=own_baseC hown hB.size;have hb:=below_then hB hb
 go_wp2
 go_ret;exact⟨v',rfl,hown,hb⟩
theorem putL_near (d:List UInt8) (s p:Int) (w:World) (hd:d.length≤140737488351232) :
 Calls Tryz.prog 231 #[.agg #[],vv ⟨d,false,s,p⟩] w (OwnBytes 5 w ([0]++d)):=by
 obtain⟨i0,hi,hz0,hz1,hz2⟩:=info_parts info_u8;have hB:=below_three w (.cells #[] 273) (.cells #[.string (strOf d),.bool false,.int .i64 s,.int .i64 p] 209) (.cells #[.int .u8 0] 5);obtain⟨v',w',hr,ho,hg⟩:=run_append_text (P:=Tryz.prog) w.heap.size 42 9 5 i0 Tryz.underlying42 Tryz.underlying9 hi hz0 hz1 hz2 (own_made .u8 ((w.alloc (.cells #[] 273)).alloc (.cells #[.string (strOf d),.bool false,.int .i64 s,.int .i64 p] 209)) 5 [0] (b:=w.heap.size+1+1) (by simp) (by omega) (by unfold maxLen;simp)) d (by simp;omega) (by simp;omega);have hb:Below w.heap.size w w':=hB.grown hg (by simp;omega) (fun k hk=>by cases hk;show w.heap.size≤w.heap.size+1+1;omega);have HO:=Hd ho;have HB:=Hd hb;have hr:(Builtin.append_ #[42,9] 42 #[.slice (some ⟨w.heap.size+1+1,0,none⟩) 1 1,.string (strOf d)]).run Tryz.prog (((w.alloc (.cells #[] 273)).alloc (.cells #[.string (strOf d),.bool false,.int .i64 s,.int .i64 p] 209)).alloc (.cells #[.int .u8 0] 5))=.ok v' w':=hr;clear ho hb hg hB hz0 hz1 hz2 hi;unfold vv;go_enter Tryz.func231,Tryz.ntmps231
 go_wp2_with (at_builtin;refine wpList_append_run rfl _ _ _ _ rfl rfl rfl hr ?_)
 go_ret;exact⟨v',rfl,by have:=HO.out;simpa[toI,Nat.add_comm] using this,HB.out⟩
theorem own_drew {w:World} {base:Nat} {e:TypeId} {size:Nat} {v:Value} {n:Nat} {xs:List Value} (h:w.ownsRow base e size v n xs):w.drew.ownsRow base e size v n xs:=h
theorem own_bytes {w:World} {base:Nat} (h:base≤w.heap.size) (x:UInt8):(w.alloc (.cells #[.int .u8 (x.toNat:Int)] 5)).ownsRow base 5 1 (.slice (some ⟨w.heap.size,0,none⟩) 1 1) 1 ((toI [x]).map (Value.int .u8)):=
 World.ownsRow_lit w #[.int .u8 (x.toNat:Int)] 1 h (by unfold maxLen;omega) rfl
theorem append_bytes {w:World} {base:Nat} {v:Value} {n:Nat} {p:List UInt8} (hown:w.ownsRow base 5 1 v n ((toI p).map (Value.int .u8))) {a:Option Addr} {m c:Nat} {l:List UInt8} (h:Bs w a m c l) (hn:n+m≤140737488355328) (hbase:base≤w.heap.size) :
 ∃v' w',(Builtin.append_ #[42,42] 42 #[v,.slice a m c]).run Tryz.prog w=.ok v' w'∧AppOut w base 5 1 v (n+m) ((toI (p++l)).map (Value.int .u8)) w.heap.size v' w':=by
 obtain⟨i0,hi,hz0,hz1,hz2⟩:=info_parts info_u8;obtain⟨v',w',h1,h2⟩:=run_append_row (P:=Tryz.prog) base 42 5 i0 _ 1 Tryz.underlying42 hi hz0 hz1 hz2 rfl hown h (by unfold maxLen;omega) (by omega) hbase;exact⟨v',w',h1,by rw[←toI_append,List.map_append];exact h2⟩
theorem putL_far (d:List UInt8) (s p:Int) (w:World) :
 Calls Tryz.prog 231 #[.agg #[],vv ⟨d,true,s,p⟩] w (OwnBytes 5 w ([1]++two s++two p)):=by
 have hB:=below_two' w (.cells #[] 273) (.cells #[.string (strOf d),.bool true,.int .i64 s,.int .i64 p] 209);have BX:=((Boxes.nil w).alloc #[] 273 rfl).alloc #[.string (strOf d),.bool true,.int .i64 s,.int .i64 p] 209 (by simp:_=w.heap.size+1);have T1:=fun W=>two_any s W
 have T2:=fun W=>two_any p W
 have l1:=two_length s;have l2:=two_length p;unfold vv;generalize two s=ts at *;generalize two p=tp at *;have L1:=Hd l1;have L2:=Hd l2;clear l1 l2;go_enter Tryz.func231,Tryz.ntmps231;go_wp2_with fail;generalize (w.alloc _).alloc _=W2 at *;have c2:∀W,Below W2.heap.size W2 W→W.cell? ⟨w.heap.size+1,2,none⟩=some (.int .i64 s):=fun W hW=>(BX.step hW).cell 0 2 rfl rfl
 have c3:∀W,Below W2.heap.size W2 W→W.cell? ⟨w.heap.size+1,3,none⟩=some (.int .i64 p):=fun W hW=>(BX.step hW).cell 0 3 rfl rfl
 have hC:Below W2.heap.size W2 W2.drew:=(Below.refl _ _).drew;have hCA:∀o,Below W2.heap.size W2 (W2.alloc o).drew:=fun o=>((Below.refl _ _).alloc (Nat.le_refl _) o).drew
 go_region_held3 (fun W=>Below W2.heap.size W2 W) (first|with_reducible assumption|(with_reducible exact hCA _)|(with_reducible exact hC3.alloc hC3.size _)) (first|(go_at_call 235;(with_reducible refine(T1 _).mono ?_);rintro e w3 ⟨v3,rfl,ho3,hb3⟩;rw[L1.out] at ho3;obtain⟨a3,k3,rfl,hs3⟩:=Bs.of_own ho3;(first|(have hC3:=hC.trans (hb3.mono hC.size);have hx3:Below W2.heap.size W2 (w3.alloc (.cells #[.int .u8 1] 5)):=hC3.alloc hC3.size _;obtain⟨v4,w4,hr4,ho4,hg4,ha4⟩:=append_bytes (own_bytes (base:=W2.heap.size) hC3.size 1) (hs3.below (Nat.le_refl _) (below_one w3 (.cells #[.int .u8 1] 5))) (by omega) hx3.size;have hC4:Below W2.heap.size W2 w4:=hx3.grown hg4 hx3.size (fun k hk=>by cases hk;exact hC3.size))|(have hC3:=(hCA (.cells #[.int .u8 1] 5)).trans (hb3.mono (by simp));obtain⟨v4,w4,hr4,ho4,hg4,ha4⟩:=append_bytes (own_below (own_drew (own_bytes (base:=W2.heap.size) (Nat.le_refl _) 1)) (Nat.le_refl _) hb3) hs3 (by omega) hC3.size;have hC4:Below W2.heap.size W2 w4:=hC3.grown hg4 hC3.size (fun k hk=>by cases hk;exact Nat.le_refl _))))|(refine step_append_run rfl _ _ _ _ rfl rfl rfl hr4 ?_)|(go_at_call 235;(with_reducible refine(T2 _).mono ?_);rintro e w5 ⟨v5,rfl,ho5,hb5⟩;rw[L2.out] at ho5;obtain⟨a5,k5,rfl,hs5⟩:=Bs.of_own ho5;have hC5:=hC4.trans (hb5.mono hC4.size);obtain⟨v6,w6,hr6,ho6,hg6,ha6⟩:=append_bytes (own_below ho4 (Nat.le_refl _) hb5) hs5 (by omega) hC5.size;have hC6:Below W2.heap.size W2 w6:=hC5.grown hg6 hC5.size (own_ge ho4))|(refine step_append_run rfl _ _ _ _ rfl rfl rfl hr6 ?_))
 all_goals
  have hb:=hB.trans (hC6.mono hB.size);go_wp2_with fail;go_ret;refine⟨_,rfl,?_,hb⟩;have:=own_baseC ho6 hB.size;have e:(1::(ts++tp):List UInt8).length=1+2+2:=by simp[L1.out,L2.out]
  rw[e];exact this
theorem put_any (leaf:Bool) (v:Vv) (w:World) (hd:v.data.length≤140737488351232) :
 Calls Tryz.prog (if leaf then 231 else 238) #[.agg #[],vv v] w (OwnBytes 5 w (encV leaf v)):=by
 cases leaf
 ·exact putB_any v w
 ·obtain⟨d,f,s,p⟩:=v
  cases f
  ·exact putL_near d s p w hd
  ·exact putL_far d s p w
open Go.RowKit
def IsEn (cs:List Value) (y:En):Prop:=cs=ecells y
def NEnts (w:World) (a:Option Addr) (len cap:Nat) (l:List En):Prop:=TabR 5 IsEn w a len cap l
theorem NEnts.below {w w':World} {a:Option Addr} {len cap:Nat} {l:List En} {B:Nat} (hB:w.heap.size≤B) (hb:Below B w w') (h:NEnts w a len cap l):NEnts w' a len cap l:=TabR.below hB hb h
theorem NEnts.len {w:World} {a:Option Addr} {len cap:Nat} {l:List En} (h:NEnts w a len cap l):l.length=len:=h.1
theorem NEnts.at {w:World} {a:Option Addr} {len cap:Nat} {l:List En} (h:NEnts w a len cap l) {k:Nat} (hk:k<len) :
 ∃b off e,a=some ⟨b,off,none⟩∧b<w.heap.size∧l[k]? = some e∧w.cell? ⟨b,off+k*5,none⟩=some (.string (strOf e.key))∧w.cell? ⟨b,off+k*5+1,none⟩=some (.string (strOf e.v.data))∧w.cell? ⟨b,off+k*5+2,none⟩=some (.bool e.v.far)∧w.cell? ⟨b,off+k*5+3,none⟩=some (.int .i64 e.v.size)∧w.cell? ⟨b,off+k*5+4,none⟩=some (.int .i64 e.v.page):=by
 obtain⟨b,off,y,cs,e1,e2,e3,_,e5,e6⟩:=TabR.at h hk;unfold IsEn at e5;subst e5;exact⟨b,off,y,e1,e2,e3,e6 0 _ rfl,e6 1 _ rfl,e6 2 _ rfl,e6 3 _ rfl,e6 4 _ rfl⟩
def BssPost (w:World) (l:List (List UInt8)) (e:Ending) (w':World):Prop:=∃v,e=.returned v∧OwnBss w' w.heap.size v l∧Below w.heap.size w w'
theorem cellsN_snoc (leaf:Bool) (l:List En) (k:Nat) (e:En) (h:l[k]? = some e):cellsN leaf (l.take (k+1))=cellsN leaf (l.take k)++[cellN leaf e]:=by
 rw[cellsN,List.take_add_one,h];simp[cellsN]
theorem own_cell {w:World} {B:Nat} {v:Value} {leaf:Bool} {e:En} (h:w.ownsRow B 5 1 v ((textF e.key).length+(encV leaf e.v).length) ((toI (textF e.key++encV leaf e.v)).map (Value.int .u8))) :
 w.ownsRow B 5 1 v (cellN leaf e).length ((toI (cellN leaf e)).map (Value.int .u8)):=by rw[cellN,List.length_append];exact h
theorem cells_leaf (a:Option Addr) (len cap:Nat) (l:List En) (w:World) (h:NEnts w a len cap l) (hlen:len≤65536) (hd:∀e∈l,e.key.length≤140737488351232∧e.v.data.length≤140737488351232) :
 Calls Tryz.prog 176 #[.agg #[.bool true,.slice a len cap]] w (BssPost w (cellsN true l)):=by
 have hB:=below_one w (.cells #[.bool true,.slice a len cap] 205);have BX:=(Boxes.nil w).alloc #[.bool true,.slice a len cap] 205 rfl;have SH:=fun W=>shapes_any W
 have KI:∀W,Calls Tryz.prog 174 #[.agg #[.bool true,.slice a len cap]] W fun e w'=>e=.returned (.int .u8 1)∧Below W.heap.size W w':=fun W=>kind_any true (.slice a len cap) W
 go_enter Tryz.func176,Tryz.ntmps176;go_wp2_with fail;have h1:=h.below (Nat.le_refl _) hB;generalize w.alloc _=W1 at *;have c0:∀W,Below W1.heap.size W1 W→W.cell? ⟨w.heap.size,0,none⟩=some (.bool true):=fun W hW=>(BX.step hW).cell 0 0 rfl rfl
 have c1:∀W,Below W1.heap.size W1 W→W.cell? ⟨w.heap.size,1,none⟩=some (.slice a len cap):=fun W hW=>(BX.step hW).cell 0 1 rfl rfl
 have hC:Below W1.heap.size W1 W1.drew:=(Below.refl _ _).drew;go_upto_region 1 with(fail)
 go_cut [3] (fun s wx=>s=.iface 273 (.agg #[])∧Below W1.heap.size W1 wx)
 case first=>
  exact q8ba21e
 case rest=>
 obtain⟨rfl,hC4⟩:=hcut;have hb:=below_then hB hC4;have BX:=BX.step hC4;have h1:=h1.below (Nat.le_refl _) hC4;clear c0 c1 hC hC4;have d1:=BX.cell 0 1 rfl rfl;go_wp2_with fail;clear d1;have hll:=Hd h1.len;have HI:=Hd hd;clear hd;have HB:=Hd hb;have BX3:=BX;clear BX hb
 go_loopw [4,15] (fun o i wr=>∃(k:Nat) (v:Value),k≤len∧i=.int .i64 k∧v=o∧OwnBss wr w.heap.size v (cellsN true (l.take k))∧Below w.heap.size w wr) (fun _ i _=>len-(intOf i).toNat)
 case atStart=>exact⟨0,_,Nat.zero_le _,rfl,rfl,OwnBss.nil _ _,HB.out⟩
 case round=>
  obtain⟨k,v,hk,rfl,rfl,hown,hbw⟩:=hrel
  by_cases hlt:k<len
  ·obtain⟨b,off,e,rfl,hbb,hy,e0,e1,e2,e3,e4⟩:=(h.below (Nat.le_refl _) hbw).at hlt
   have B6:=(Boxes.nil wr).alloc #[.string (strOf e.key),.string (strOf e.v.data),.bool e.v.far,.int .i64 e.v.size,.int .i64 e.v.page] 211 rfl;have hb6:=below_one wr (.cells #[.string (strOf e.key),.string (strOf e.v.data),.bool e.v.far,.int .i64 e.v.size,.int .i64 e.v.page] 211);have hown6:=hown.below (Nat.le_refl _) hb6;have hbw6:=below_then hbw hb6;obtain⟨hl1,hl2⟩:=HI.out e (List.mem_of_getElem? hy);have T1:=fun W=>text_any e.key W (by omega)
   have PU:∀W,Calls Tryz.prog 231 #[.agg #[],.agg #[.string (strOf e.v.data),.bool e.v.far,.int .i64 e.v.size,.int .i64 e.v.page]] W (OwnBytes 5 W (encV true e.v)):=fun W=>put_any true e.v W hl2
   have hmp:=m_putL;have hvb:=hown.blk;have hvg:∀j,v.ownBlock=some j→w.heap.size≤j:=by obtain⟨vs,hv,_⟩:=hown;exact own_ge hv
   have hsz:=hbw6.size;clear hown hb6;go_wp2_with fail;clear e0 e1 e2 e3 e4;generalize wr.heap.size=bx at *;generalize wr.alloc _=W6 at *;have c0:∀W,Boxes W [(bx,[.string (strOf e.key),.string (strOf e.v.data),.bool e.v.far,.int .i64 e.v.size,.int .i64 e.v.page])]→W.cell? ⟨bx,0,none⟩=some (.string (strOf e.key)):=fun W hW=>hW.cell 0 0 rfl rfl
   have c1:∀W,Boxes W [(bx,[.string (strOf e.key),.string (strOf e.v.data),.bool e.v.far,.int .i64 e.v.size,.int .i64 e.v.page])]→W.cell? ⟨bx,1,none⟩=some (.string (strOf e.v.data)):=fun W hW=>hW.cell 0 1 rfl rfl
   have c2:∀W,Boxes W [(bx,[.string (strOf e.key),.string (strOf e.v.data),.bool e.v.far,.int .i64 e.v.size,.int .i64 e.v.page])]→W.cell? ⟨bx,2,none⟩=some (.bool e.v.far):=fun W hW=>hW.cell 0 2 rfl rfl
   have c3:∀W,Boxes W [(bx,[.string (strOf e.key),.string (strOf e.v.data),.bool e.v.far,.int .i64 e.v.size,.int .i64 e.v.page])]→W.cell? ⟨bx,3,none⟩=some (.int .i64 e.v.size):=fun W hW=>hW.cell 0 3 rfl rfl
   have c4:∀W,Boxes W [(bx,[.string (strOf e.key),.string (strOf e.v.data),.bool e.v.far,.int .i64 e.v.size,.int .i64 e.v.page])]→W.cell? ⟨bx,4,none⟩=some (.int .i64 e.v.page):=fun W hW=>hW.cell 0 4 rfl rfl
   have hC:Below W6.heap.size W6 W6.drew:=(Below.refl _ _).drew;have B6:Boxes W6 [(bx,[.string (strOf e.key),.string (strOf e.v.data),.bool e.v.far,.int .i64 e.v.size,.int .i64 e.v.page])]:=B6;have B6d:Boxes W6.drew [(bx,[.string (strOf e.key),.string (strOf e.v.data),.bool e.v.far,.int .i64 e.v.size,.int .i64 e.v.page])]:=B6
   go_region_held3 (fun W=>Boxes W [(bx,[.string (strOf e.key),.string (strOf e.v.data),.bool e.v.far,.int .i64 e.v.size,.int .i64 e.v.page])]) (first|with_reducible assumption|(with_reducible exact B9.step (below_one w9 _))) (first|(go_at_call 65;(with_reducible refine(T1 _).mono ?_);rintro e1 w7 ⟨v7,rfl,ho7,hb7⟩;have hC7:=hC.trans (hb7.mono hC.size);have B7:=B6d.step hb7)|(go_at_call 231;(with_reducible refine(PU _).mono ?_);rintro e1 w8 ⟨v8,rfl,ho8,hb8⟩;have hC8:=hC7.trans (hb8.mono hC7.size);have B8:=B7.step hb8;obtain⟨a8,k8,rfl,hs8⟩:=Bs.of_own ho8;obtain⟨v9,w9,hr9,ho9,hg9,ha9⟩:=append_bytes (own_below (own_baseC (b0:=W6.heap.size) ho7 hC.size) (Nat.le_refl _) hb8) hs8 (by rw[textF_length,encV_length];simp;split<;>omega) hC8.size;have hC9:Below W6.heap.size W6 w9:=hC8.grown hg9 hC8.size (own_ge (own_baseC (b0:=W6.heap.size) ho7 hC.size));have B9:=B6.step hC9;have ho9:=own_cell ho9;obtain⟨a9,k9,rfl,hk91,hk92,hk93⟩:=own_slice ho9;have hown9:=hown6.below (Nat.le_refl _) hC9;obtain⟨v10,w10,hr10,ho10,hg10⟩:=append_bss hown9 ho9 hsz (by rw[cellsN_length,List.length_take];omega) (Nat.le_trans hsz hC9.size);have B10:=B9.grown hg10 (fun p hp=>by simp at hp;subst hp;exact hvb);have hb9:=below_then hbw6 hC9;have hb10:=hb9.grown hg10 hb9.size hvg)|(refine step_append_run rfl _ _ _ _ rfl rfl rfl hr9 ?_)|(refine step_append_run rfl _ _ _ _ rfl rfl rfl hr10 ?_))
   rw[←cellsN_snoc true l k e hy] at ho10;exact q44d2aa
  ·obtain rfl:k=len:=by omega
   go_wp2_with fail;go_ret;rw[List.take_of_length_le (by rw[hll.out];exact Nat.le_refl _)] at hown;exact⟨v,rfl,hown,hbw⟩
theorem cells_branch (a:Option Addr) (len cap:Nat) (l:List En) (w:World) (h:NEnts w a len cap l) (hlen:len≤65536) (hd:∀e∈l,e.key.length≤140737488351232∧e.v.data.length≤140737488351232) :
 Calls Tryz.prog 176 #[.agg #[.bool false,.slice a len cap]] w (BssPost w (cellsN false l)):=by
 have hB:=below_one w (.cells #[.bool false,.slice a len cap] 205);have BX:=(Boxes.nil w).alloc #[.bool false,.slice a len cap] 205 rfl;have SH:=fun W=>shapes_any W
 have KI:∀W,Calls Tryz.prog 174 #[.agg #[.bool false,.slice a len cap]] W fun e w'=>e=.returned (.int .u8 2)∧Below W.heap.size W w':=fun W=>kind_any false (.slice a len cap) W
 go_enter Tryz.func176,Tryz.ntmps176;go_wp2_with fail;have h1:=h.below (Nat.le_refl _) hB;generalize w.alloc _=W1 at *;have c0:∀W,Below W1.heap.size W1 W→W.cell? ⟨w.heap.size,0,none⟩=some (.bool false):=fun W hW=>(BX.step hW).cell 0 0 rfl rfl
 have c1:∀W,Below W1.heap.size W1 W→W.cell? ⟨w.heap.size,1,none⟩=some (.slice a len cap):=fun W hW=>(BX.step hW).cell 0 1 rfl rfl
 have hC:Below W1.heap.size W1 W1.drew:=(Below.refl _ _).drew;go_upto_region 1 with(fail)
 go_cut [3] (fun s wx=>s=.iface 315 (.agg #[])∧Below W1.heap.size W1 wx)
 case first=>
  exact q743a71
 case rest=>
 obtain⟨rfl,hC4⟩:=hcut;have hb:=below_then hB hC4;have BX:=BX.step hC4;have h1:=h1.below (Nat.le_refl _) hC4;clear c0 c1 hC hC4;have d1:=BX.cell 0 1 rfl rfl;go_wp2_with fail;clear d1;have hll:=Hd h1.len;have HI:=Hd hd;clear hd;have HB:=Hd hb;have BX3:=BX;clear BX hb
 go_loopw [4,15] (fun o i wr=>∃(k:Nat) (v:Value),k≤len∧i=.int .i64 k∧v=o∧OwnBss wr w.heap.size v (cellsN false (l.take k))∧Below w.heap.size w wr) (fun _ i _=>len-(intOf i).toNat)
 case atStart=>exact⟨0,_,Nat.zero_le _,rfl,rfl,OwnBss.nil _ _,HB.out⟩
 case round=>
  obtain⟨k,v,hk,rfl,rfl,hown,hbw⟩:=hrel
  by_cases hlt:k<len
  ·obtain⟨b,off,e,rfl,hbb,hy,e0,e1,e2,e3,e4⟩:=(h.below (Nat.le_refl _) hbw).at hlt
   have B6:=(Boxes.nil wr).alloc #[.string (strOf e.key),.string (strOf e.v.data),.bool e.v.far,.int .i64 e.v.size,.int .i64 e.v.page] 211 rfl;have hb6:=below_one wr (.cells #[.string (strOf e.key),.string (strOf e.v.data),.bool e.v.far,.int .i64 e.v.size,.int .i64 e.v.page] 211);have hown6:=hown.below (Nat.le_refl _) hb6;have hbw6:=below_then hbw hb6;obtain⟨hl1,hl2⟩:=HI.out e (List.mem_of_getElem? hy);have T1:=fun W=>text_any e.key W (by omega)
   have PU:∀W,Calls Tryz.prog 238 #[.agg #[],.agg #[.string (strOf e.v.data),.bool e.v.far,.int .i64 e.v.size,.int .i64 e.v.page]] W (OwnBytes 5 W (encV false e.v)):=fun W=>put_any false e.v W hl2
   have hmp:=m_putB;have hvb:=hown.blk;have hvg:∀j,v.ownBlock=some j→w.heap.size≤j:=by obtain⟨vs,hv,_⟩:=hown;exact own_ge hv
   have hsz:=hbw6.size;clear hown hb6;go_wp2_with fail;clear e0 e1 e2 e3 e4;generalize wr.heap.size=bx at *;generalize wr.alloc _=W6 at *;have c0:∀W,Boxes W [(bx,[.string (strOf e.key),.string (strOf e.v.data),.bool e.v.far,.int .i64 e.v.size,.int .i64 e.v.page])]→W.cell? ⟨bx,0,none⟩=some (.string (strOf e.key)):=fun W hW=>hW.cell 0 0 rfl rfl
   have c1:∀W,Boxes W [(bx,[.string (strOf e.key),.string (strOf e.v.data),.bool e.v.far,.int .i64 e.v.size,.int .i64 e.v.page])]→W.cell? ⟨bx,1,none⟩=some (.string (strOf e.v.data)):=fun W hW=>hW.cell 0 1 rfl rfl
   have c2:∀W,Boxes W [(bx,[.string (strOf e.key),.string (strOf e.v.data),.bool e.v.far,.int .i64 e.v.size,.int .i64 e.v.page])]→W.cell? ⟨bx,2,none⟩=some (.bool e.v.far):=fun W hW=>hW.cell 0 2 rfl rfl
   have c3:∀W,Boxes W [(bx,[.string (strOf e.key),.string (strOf e.v.data),.bool e.v.far,.int .i64 e.v.size,.int .i64 e.v.page])]→W.cell? ⟨bx,3,none⟩=some (.int .i64 e.v.size):=fun W hW=>hW.cell 0 3 rfl rfl
   have c4:∀W,Boxes W [(bx,[.string (strOf e.key),.string (strOf e.v.data),.bool e.v.far,.int .i64 e.v.size,.int .i64 e.v.page])]→W.cell? ⟨bx,4,none⟩=some (.int .i64 e.v.page):=fun W hW=>hW.cell 0 4 rfl rfl
   have hC:Below W6.heap.size W6 W6.drew:=(Below.refl _ _).drew;have B6:Boxes W6 [(bx,[.string (strOf e.key),.string (strOf e.v.data),.bool e.v.far,.int .i64 e.v.size,.int .i64 e.v.page])]:=B6;have B6d:Boxes W6.drew [(bx,[.string (strOf e.key),.string (strOf e.v.data),.bool e.v.far,.int .i64 e.v.size,.int .i64 e.v.page])]:=B6
   go_region_held3 (fun W=>Boxes W [(bx,[.string (strOf e.key),.string (strOf e.v.data),.bool e.v.far,.int .i64 e.v.size,.int .i64 e.v.page])]) (first|with_reducible assumption|(with_reducible exact B9.step (below_one w9 _))) (first|(go_at_call 65;(with_reducible refine(T1 _).mono ?_);rintro e1 w7 ⟨v7,rfl,ho7,hb7⟩;have hC7:=hC.trans (hb7.mono hC.size);have B7:=B6d.step hb7)|(go_at_call 238;(with_reducible refine(PU _).mono ?_);rintro e1 w8 ⟨v8,rfl,ho8,hb8⟩;have hC8:=hC7.trans (hb8.mono hC7.size);have B8:=B7.step hb8;obtain⟨a8,k8,rfl,hs8⟩:=Bs.of_own ho8;obtain⟨v9,w9,hr9,ho9,hg9,ha9⟩:=append_bytes (own_below (own_baseC (b0:=W6.heap.size) ho7 hC.size) (Nat.le_refl _) hb8) hs8 (by rw[textF_length,encV_length];simp;omega) hC8.size;have hC9:Below W6.heap.size W6 w9:=hC8.grown hg9 hC8.size (own_ge (own_baseC (b0:=W6.heap.size) ho7 hC.size));have B9:=B6.step hC9;have ho9:=own_cell ho9;obtain⟨a9,k9,rfl,hk91,hk92,hk93⟩:=own_slice ho9;have hown9:=hown6.below (Nat.le_refl _) hC9;obtain⟨v10,w10,hr10,ho10,hg10⟩:=append_bss hown9 ho9 hsz (by rw[cellsN_length,List.length_take];omega) (Nat.le_trans hsz hC9.size);have B10:=B9.grown hg10 (fun p hp=>by simp at hp;subst hp;exact hvb);have hb9:=below_then hbw6 hC9;have hb10:=hb9.grown hg10 hb9.size hvg)|(refine step_append_run rfl _ _ _ _ rfl rfl rfl hr9 ?_)|(refine step_append_run rfl _ _ _ _ rfl rfl rfl hr10 ?_))
   rw[←cellsN_snoc false l k e hy] at ho10;exact q44d2aa
  ·obtain rfl:k=len:=by omega
   go_wp2_with fail;go_ret;rw[List.take_of_length_le (by rw[hll.out];exact Nat.le_refl _)] at hown;exact⟨v,rfl,hown,hbw⟩
theorem cells_any (leaf:Bool) (a:Option Addr) (len cap:Nat) (l:List En) (w:World) (h:NEnts w a len cap l) (hlen:len≤65536) (hd:∀e∈l,e.key.length≤140737488351232∧e.v.data.length≤140737488351232) :
 Calls Tryz.prog 176 #[.agg #[.bool leaf,.slice a len cap]] w (BssPost w (cellsN leaf l)):=by
 cases leaf
 ·exact cells_branch a len cap l w h hlen hd
 ·exact cells_leaf a len cap l w h hlen hd
open Go.RowKit
def TakeVal (o:Option Vv) (u:Value):Prop:=
 match o with
 | some v=>u=.iface 209 (vv v)
 | none=>∃x:Int,u=.iface 32 (.int .i64 x)
def TakePost (w:World) (t:Nat) (o:Option Vv) (e:Ending) (w':World):Prop:=∃u s',e=.returned u∧TakeVal o u∧w.grownBy w' (some t)∧Tk w' t s'
theorem grown_step {a b c:World} {t:Nat} (h:a.grownBy b (some t)) (hb:Below b.heap.size b c):a.grownBy c (some t):=grown_trans h (grown_below hb (some t))
theorem takeB_any (t:Nat) (s:TSt) (w:World) (h:Tk w t s) (hreach:s.l.length≤140737488351232) :
 Calls Tryz.prog 239 #[.agg #[],.pointer (some ⟨t,0,none⟩)] w (TakePost w t (decV false s)):=by
 have hB:=below_one w (.cells #[] 315);have h1:=h.below (Nat.le_refl _) hB;have hC:=tNum_any t s 2 _ h1 hreach;have hdec:decV false s=if tDone (tNum s 2).2=0 then some ⟨[],false,0,((tNum s 2).1:Int)⟩ else none:=rfl
 rw[hdec];have hlt:(tNum s 2).1<65536:=tNum_lt s 2;obtain⟨n,s1,hs⟩:∃n s1,tNum s 2=(n,s1):=⟨_,_,rfl⟩
 rw[hs] at hC hlt ⊢;clear hs hdec;have hn:n<65536:=hlt;clear hlt;dsimp only at hC ⊢;have D:=fun W (h:Tk W t s1)=>tDone_any t s1 W h
 generalize tDone s1=d at *;have hn8:((n:Nat):Int)<65536:=by omega
 obtain⟨o,ho⟩:∃o,o=(if d=0 then some (⟨[],false,0,(n:Int)⟩:Vv) else none):=⟨_,rfl⟩
 rw[←ho];have HO:=Hd ho;clear ho;go_enter Tryz.func239,Tryz.ntmps239;go_wp2_with fail;refine hC.mono ?_;rintro e w2 ⟨v2,rfl,rfl,hg2,htk2⟩;have hg:=grown_trans (grown_below hB (some t)) hg2;go_wp2_with fail;have hB3:=below_one w2 (.cells #[.string ⟨#[]⟩,.bool false,.int .i64 0,.int .i64 (n:Int)] 209);have BX:=(Boxes.nil w2).alloc #[.string ⟨#[]⟩,.bool false,.int .i64 0,.int .i64 (n:Int)] 209 rfl;have htk3:=htk2.below (Nat.le_refl _) hB3;have hg3:=grown_step hg hB3;refine(D _ htk3).mono ?_;rintro e w4 ⟨rfl,rfl⟩
 by_cases hd:d=0
 ·subst hd
  have hov:o=some ⟨[],false,0,(n:Int)⟩:=HO.out;go_wp2_with fail;go_ret;exact⟨_,s1,rfl,by rw[hov];rfl,hg3,htk3⟩
 ·have hd2:(d != 0)=true:=by simpa using hd
  have hov:o=none:=by rw[HO.out,if_neg hd]
  have HV:=Hd hov;clear hov;go_wp2_with fail;go_ret;exact⟨_,s1,rfl,by rw[HV.out];exact⟨d,rfl⟩,hg3,htk3⟩
theorem Tk.boxed {w w':World} {t b:Nat} {s:TSt} {vs:List Value} {l:List (Nat×List Value)} (h:Tk w t s) (hx:Boxes w l) (n:Nat) (hn:l[n]? = some (b,vs)) (hv:∀(i:Nat) (x:Int),vs[i]? ≠ some (.int .u8 x)) (hne:t≠b) (hg:w.grownBy w' (some b)):Tk w' t s:=by
 refine h.grown hg (fun e=>by cases e;exact hne rfl) (fun a k m b' off hc hl ha hb=>?_);cases hb;obtain⟨a2,cap2,q1,q2⟩:=h;rw[hc] at q1;cases q1;obtain⟨b3,off3,e1,_,hcell⟩:=q2.cell (k:=0) (by omega);rw[ha] at e1;cases e1;have h0:=hcell 0 (by omega);obtain⟨ty,hty⟩:=hx (b,vs) (List.mem_of_getElem? hn);simp only[World.cell?,hty,Nat.add_zero] at h0;exact hv off _ (by simpa using h0)
theorem grown_new {a b:World} {t:Nat} (h:a.grownBy b (some t)) (p:Addr) (hp:a.heap.size≤p.block) (u:Value):a.grownBy (b.setCell p u) (some t):=
 ⟨h.os,h.tape,h.output,by simpa[World.setCell] using h.size,fun i hi hne=>(Below.heap_setCell b p u i (by intro e;omega)).trans (h.block i hi hne)⟩
theorem decV_leaf (s:TSt):decV true s=if (tNum s 1).1=0 then (if tDone (tRest (tNum s 1).2).2=0 then some ⟨(tRest (tNum s 1).2).1,false,0,0⟩ else none)
 else if (tNum s 1).1=1 then (if tDone (tNum (tNum (tNum s 1).2 2).2 2).2=0 then some ⟨[],true,((tNum (tNum s 1).2 2).1:Int),((tNum (tNum (tNum s 1).2 2).2 2).1:Int)⟩ else none)
 else none:=rfl
theorem takeL_near (t:Nat) (s:TSt) (w:World) (h:Tk w t s) (hreach:s.l.length≤140737488351232) (h0:(tNum s 1).1=0) :
 Calls Tryz.prog 232 #[.agg #[],.pointer (some ⟨t,0,none⟩)] w (TakePost w t (decV true s)):=by
 have htl:=h.lt;have hB:=below_one w (.cells #[] 273);have hB2:=below_two' w (.cells #[] 273) (.cells #[.string ⟨#[]⟩,.bool false,.int .i64 0,.int .i64 0] 209);have h1:=h.below (Nat.le_refl _) hB2;have hC:=tNum_any t s 1 _ h1 hreach;have hl1:=tNum_len s 1;rw[decV_leaf,if_pos h0];rw[h0] at hC;generalize (tNum s 1).2=s1 at *;have R:=fun W (h:Tk W t s1)=>tRest_any t s1 W h (by omega)
 generalize (tRest s1).1=r at *;generalize (tRest s1).2=s2 at *;have D:=fun W (h:Tk W t s2)=>tDone_any t s2 W h
 generalize tDone s2=d at *;obtain⟨o,ho⟩:∃o,o=(if d=0 then some (⟨r,false,0,0⟩:Vv) else none):=⟨_,rfl⟩
 rw[←ho];have HO:=Hd ho;have BX:=((Boxes.nil w).alloc #[] 273 rfl).alloc #[.string ⟨#[]⟩,.bool false,.int .i64 0,.int .i64 0] 209 (by simp:_=w.heap.size+1);clear ho h0 hl1;go_enter Tryz.func232,Tryz.ntmps232;go_wp2_with fail;refine hC.mono ?_;rintro e w2 ⟨v2,rfl,rfl,hg2,htk2⟩;have hne:∀p∈[(w.heap.size+1,([.string ⟨#[]⟩,.bool false,.int .i64 0,.int .i64 0]:List Value)),(w.heap.size,[])],(some t:Option Nat)≠some p.1:=by intro p hp;simp at hp;rcases hp with rfl|rfl<;>simp<;>omega
 have BX:=BX.grown hg2 hne;have hga:=grown_trans (grown_below hB2 (some t)) hg2;go_wp2_with fail;refine(R _ htk2).mono ?_;rintro e w3 ⟨v3,rfl,ho3,hg3,htk3⟩;obtain⟨a3,k3,rfl,hs3⟩:=Bs.of_own ho3;have BX:=BX.grown hg3 hne;have hgb:=grown_trans hga hg3;have hcv:=conv_string Tryz.underlying42 Tryz.underlying5 Tryz.underlying9 hs3;have z0:=BX.cell 0 0 rfl rfl;have y0:=BX.frozen 0 0 rfl;have htk4:=htk3.boxed BX 0 rfl (by intro i x;match i with|0=>simp|1=>simp|2=>simp|3=>simp|i+4=>simp) (by omega) (grown_setCell w3 ⟨w.heap.size+1,0,none⟩ (.string (strOf r)));have BY:=BX.put 0 (.string (strOf r)) (by intro p hp;simp at hp;subst hp;simp);go_wp2_with fail;have hgc:=grown_new hgb ⟨w.heap.size+1,0,none⟩ (by simp) (.string (strOf r));refine(D _ htk4).mono ?_;rintro e w4 ⟨rfl,rfl⟩;have g0:=BY.cell 0 0 rfl rfl;have g1:=BY.cell 0 1 rfl rfl;have g2:=BY.cell 0 2 rfl rfl;have g3:=BY.cell 0 3 rfl rfl;clear z0 y0 hcv hs3 ho3
 by_cases hd:d=0
 ·subst hd
  have HV:Hid (o=some ⟨r,false,0,0⟩):=Hd HO.out;go_wp2_with fail;go_ret;exact⟨_,s2,rfl,by rw[HV.out];rfl,hgc,htk4⟩
 ·have hd2:(d != 0)=true:=by simpa using hd
  have HV:Hid (o=none):=Hd (by rw[HO.out,if_neg hd]);go_wp2_with fail;go_ret;exact⟨_,s2,rfl,by rw[HV.out];exact⟨d,rfl⟩,hgc,htk4⟩
theorem takeL_bad (t:Nat) (s:TSt) (w:World) (h:Tk w t s) (hreach:s.l.length≤140737488351232) (h0:(tNum s 1).1≠0) (h1':(tNum s 1).1≠1) :
 Calls Tryz.prog 232 #[.agg #[],.pointer (some ⟨t,0,none⟩)] w (TakePost w t (decV true s)):=by
 have hB2:=below_two' w (.cells #[] 273) (.cells #[.string ⟨#[]⟩,.bool false,.int .i64 0,.int .i64 0] 209);have h1:=h.below (Nat.le_refl _) hB2;have hC:=tNum_any t s 1 _ h1 hreach;rw[decV_leaf,if_neg h0,if_neg h1'];generalize (tNum s 1).1=n at *;generalize (tNum s 1).2=s1 at *;have q0:((n:Int) == 0)=false:=by simp;omega
 have q1:((n:Int) == 1)=false:=by simp;omega
 have HB:=Hd hB2;clear h0 h1' hB2;go_enter Tryz.func232,Tryz.ntmps232;go_wp2_with fail;refine hC.mono ?_;rintro e w2 ⟨v2,rfl,rfl,hg2,htk2⟩;have hga:=grown_trans (grown_below HB.out (some t)) hg2;go_wp2_with fail;go_ret;exact⟨_,s1,rfl,⟨11,rfl⟩,hga,htk2⟩
theorem takeL_far (t:Nat) (s:TSt) (w:World) (h:Tk w t s) (hreach:s.l.length≤140737488351232) (h1':(tNum s 1).1=1) :
 Calls Tryz.prog 232 #[.agg #[],.pointer (some ⟨t,0,none⟩)] w (TakePost w t (decV true s)):=by
 have htl:=h.lt;have hB2:=below_two' w (.cells #[] 273) (.cells #[.string ⟨#[]⟩,.bool false,.int .i64 0,.int .i64 0] 209);have h1:=h.below (Nat.le_refl _) hB2;have hC:=tNum_any t s 1 _ h1 hreach;have hl1:=tNum_len s 1;rw[decV_leaf,if_neg (by rw[h1'];decide),if_pos h1'];rw[h1'] at hC;generalize (tNum s 1).2=s1 at *;have R:=fun W (h:Tk W t s1)=>tNum_any t s1 2 W h (by omega)
 have hl2:=tNum_len s1 2;have hn2:(tNum s1 2).1<65536:=tNum_lt s1 2;generalize (tNum s1 2).1=n2 at *;generalize (tNum s1 2).2=s2 at *;have R2:=fun W (h:Tk W t s2)=>tNum_any t s2 2 W h (by omega)
 have hn3:(tNum s2 2).1<65536:=tNum_lt s2 2;generalize (tNum s2 2).1=n3 at *;generalize (tNum s2 2).2=s3 at *;have D:=fun W (h:Tk W t s3)=>tDone_any t s3 W h
 generalize tDone s3=d at *;obtain⟨o,ho⟩:∃o,o=(if d=0 then some (⟨[],true,(n2:Int),(n3:Int)⟩:Vv) else none):=⟨_,rfl⟩
 rw[←ho];have HO:=Hd ho;have BX:=((Boxes.nil w).alloc #[] 273 rfl).alloc #[.string ⟨#[]⟩,.bool false,.int .i64 0,.int .i64 0] 209 (by simp:_=w.heap.size+1);have hc2:((n2:Nat):Int)<65536:=by omega
 have hc3:((n3:Nat):Int)<65536:=by omega
 have hq:∀p∈[(w.heap.size,([]:List Value))],p.1≠w.heap.size+1:=by intro p hp;simp at hp;subst hp;simp
 have key:∀(W:World) (S:TSt) (vs:List Value) (i:Nat) (u:Value),Boxes W [(w.heap.size+1,vs),(w.heap.size,[])]→Tk W t S→(∀(i:Nat) (x:Int),vs[i]? ≠ some (.int .u8 x))→w.grownBy W (some t)→Tk (W.setCell ⟨w.heap.size+1,i,none⟩ u) t S∧Boxes (W.setCell ⟨w.heap.size+1,i,none⟩ u) [(w.heap.size+1,vs.set i u),(w.heap.size,[])]∧w.grownBy (W.setCell ⟨w.heap.size+1,i,none⟩ u) (some t):=fun W S vs i u hb ht hv hg=>
  ⟨ht.boxed hb 0 rfl hv (by omega) (grown_setCell W ⟨w.heap.size+1,i,none⟩ u),hb.put i u hq,grown_new hg ⟨w.heap.size+1,i,none⟩ (by simp) u⟩
 have KEY:=Hd key;clear ho h1' hl1 hl2 hn2 hn3 hq key;go_enter Tryz.func232,Tryz.ntmps232;go_wp2_with fail;refine hC.mono ?_;rintro e w2 ⟨v2,rfl,rfl,hg2,htk2⟩;have hne:∀(vs:List Value),∀p∈[(w.heap.size+1,vs),(w.heap.size,[])],(some t:Option Nat)≠some p.1:=by intro vs p hp;simp at hp;rcases hp with rfl|rfl<;>simp<;>omega
 have BX:=BX.grown hg2 (hne _);have hga:=grown_trans (grown_below hB2 (some t)) hg2;have HNE:=Hd hne;clear hne;go_wp2_with fail;refine(R _ htk2).mono ?_;rintro e w3 ⟨v3,rfl,rfl,hg3,htk3⟩;have BX:=BX.grown hg3 (HNE.out _);have hgb:=grown_trans hga hg3;have z1:=BX.cell 0 1 rfl rfl;have y1:=BX.frozen 0 1 rfl;have z2:=BX.cell 0 2 rfl rfl;have y2:=BX.frozen 0 2 rfl;obtain⟨k1,k2,k3⟩:=KEY.out _ _ _ 1 (.bool true) BX htk3 (by intro i x;match i with|0=>simp|1=>simp|2=>simp|3=>simp|i+4=>simp) hgb;obtain⟨m1,m2,m3⟩:=KEY.out _ _ _ 2 (.int .i64 (n2:Int)) k2 k1 (by intro i x;match i with|0=>simp|1=>simp|2=>simp|3=>simp|i+4=>simp) k3;go_wp2_with fail;clear z1 y1 z2 y2 k1 k2 k3;refine(R2 _ m1).mono ?_;rintro e w4 ⟨v4,rfl,rfl,hg4,htk4⟩;have BX:=m2.grown hg4 (HNE.out _);have hgc:=grown_trans m3 hg4;have z3:=BX.cell 0 3 rfl rfl;have y3:=BX.frozen 0 3 rfl;obtain⟨p1,p2,p3⟩:=KEY.out _ _ _ 3 (.int .i64 (n3:Int)) BX htk4 (by intro i x;match i with|0=>simp|1=>simp|2=>simp|3=>simp|i+4=>simp) hgc;clear m1 m2 m3;go_wp2_with fail;refine(D _ p1).mono ?_;rintro e w5 ⟨rfl,rfl⟩;have g0:=p2.cell 0 0 rfl rfl;have g1:=p2.cell 0 1 rfl rfl;have g2:=p2.cell 0 2 rfl rfl;have g3:=p2.cell 0 3 rfl rfl;clear z3 y3
 by_cases hd:d=0
 ·subst hd
  have HV:Hid (o=some ⟨[],true,(n2:Int),(n3:Int)⟩):=Hd HO.out;go_wp2_with fail;go_ret;exact⟨_,s3,rfl,by rw[HV.out];rfl,p3,p1⟩
 ·have hd2:(d != 0)=true:=by simpa using hd
  have HV:Hid (o=none):=Hd (by rw[HO.out,if_neg hd]);go_wp2_with fail;go_ret;exact⟨_,s3,rfl,by rw[HV.out];exact⟨d,rfl⟩,p3,p1⟩
theorem takeL_any (t:Nat) (s:TSt) (w:World) (h:Tk w t s) (hreach:s.l.length≤140737488351232) :
 Calls Tryz.prog 232 #[.agg #[],.pointer (some ⟨t,0,none⟩)] w (TakePost w t (decV true s)):=by
 by_cases h0:(tNum s 1).1=0
 ·exact takeL_near t s w h hreach h0
 ·by_cases h1:(tNum s 1).1=1
  ·exact takeL_far t s w h hreach h1
  ·exact takeL_bad t s w h hreach h0 h1
end Go.Proofs.YtpghlmcoajaiiaaGreatDoor
