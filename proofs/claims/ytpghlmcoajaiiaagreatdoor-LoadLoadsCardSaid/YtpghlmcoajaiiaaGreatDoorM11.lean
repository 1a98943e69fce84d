/- Texts that other texts of this claim lean on, one behind the other. -/
import Derived.Test.YtpghlmcoajaiiaaGreatDoorM10
import Derived.Test.YtpghlmcoajaiiaaGreatDoorM1
import Derived.Test.YtpghlmcoajaiiaaGreatDoorM9
import Derived.Test.YtpghlmcoajaiiaaGreatDoorM8
import Derived.Test.YtpghlmcoajaiiaaGreatDoorM2
import Derived.Test.YtpghlmcoajaiiaaGreatDoorM3
import Derived.Test.YtpghlmcoajaiiaaGreatDoorM4
import Derived.Test.YtpghlmcoajaiiaaGreatDoorM6
import Derived.Deep.RegionHeld3
import Derived.Test.YtpghlmcoajaiiaaGreatDoorM7
import Derived.Deep.DeepCutAuto
import Derived.Deep.CutBlock
import Derived.Deep.QuietTactic
import Derived.BigQuiet
import Derived.Test.YtpghlmcoajaiiaaGreatDoorM5
import Derived.RegionTactic
set_option maxHeartbeats 20000000
set_option maxRecDepth 100000
namespace Go.Proofs.YtpghlmcoajaiiaaGreatDoor
open Go.RowKit
theorem putN_len {leaf:Bool} {l:List En} (h:nodeB leaf l=true):(putN leaf l).length=128:=by
 rw[putN,if_pos h];exact pageOf_length _ _ (by
  have:=fits_node h;unfold fits at this;simp at this;simpa using this.2)
theorem putLC_all {v:List UInt8} {at_:List Int} (hok:putOkC v at_=true):(putLC v at_).length=at_.length∧∀b∈putLC v at_,b.length=128:=by
 rw[putLC,hok,if_pos rfl];refine⟨by simp,fun b hb=>?_⟩;obtain⟨k,_,rfl⟩:=List.mem_map.1 hb;exact pageC_len v at_ k
theorem Spots.ok {N:Nat} {s:List Int} (hs:Spots N s) {v:List UInt8} (hn:needC v.length≠0) (hl:needC v.length≤s.length):putOkC v (s.take (needC v.length))=true:=by
 unfold putOkC;rw[(hs.take _).apt];simp[hn];omega
theorem layVs_writes {N:Nat}:∀{l:List (List UInt8×Tv)} {s:List Int},(∀c∈l,c.2.pages=[])→Spots N s→(l.map fun c=>needC c.2.data.length).sum≤s.length→(layVs l s).2.1.map (·.1)=s.take (l.map fun c=>needC c.2.data.length).sum∧∀x∈(layVs l s).2.1,x.2.length=128
 | [],s,_,_,_=>by simp[layVs]
 | c::r9,s,hp,hs,hl=>by
  simp only[List.map_cons,List.sum_cons] at hl ⊢;obtain⟨e,e1,e2,h1,h2,h3⟩:=layVs_cons (r:=r9) (s:=s) (hp c (by simp));obtain⟨i1,i2⟩:=layVs_writes (l:=r9) (s:=s.drop (needC c.2.data.length)) (fun c hc=>hp c (List.mem_cons_of_mem _ hc)) (hs.drop _) (by rw[List.length_drop];omega)
  rcases h3 with⟨h0,_,h3⟩|⟨h0,_,h3⟩
  ·rw[h3,h0,Nat.zero_add]
   rw[h0,List.drop_zero] at i1 i2;exact⟨i1,i2⟩
  ·have hok:=hs.ok h0 (by omega)
   obtain⟨q1,q2⟩:=putLC_all hok;rw[h3,List.map_append,i1,List.take_add];refine⟨?_,fun x hx=>?_⟩
   ·congr 1
    exact List.map_fst_zip (by omega)
   ·rcases List.mem_append.1 hx with hx|hx
    ·exact q2 _ (List.of_mem_zip hx).2
    ·exact i2 x hx
theorem layKs_writes {N n:Nat} (IH:∀t,Fits n t→∀s,Spots N s→freshN n t≤s.length→(layT n t s).2.1.map (·.1)=s.take (freshN n t)∧∀x∈(layT n t s).2.1,x.2.length=128):∀{l:List (List UInt8×Tr)} {s:List Int},(∀c∈l,Fits n c.2)→Spots N s→(l.map fun c=>freshN n c.2).sum≤s.length→(layKs (layT n) l s).2.1.map (·.1)=s.take (l.map fun c=>freshN n c.2).sum∧∀x∈(layKs (layT n) l s).2.1,x.2.length=128
 | [],s,_,_,_=>by simp[layKs]
 | c::r9,s,hp,hs,hl=>by
  simp only[List.map_cons,List.sum_cons] at hl ⊢;have hlf:(layT n c.2 s).2.2=s.drop (freshN n c.2):=layT_left n c.2 s;rw[layKs_cons,hlf];obtain⟨g1,g2⟩:=IH c.2 (hp c (by simp)) s hs (by omega);obtain⟨i1,i2⟩:=layKs_writes IH (l:=r9) (s:=s.drop (freshN n c.2)) (fun c hc=>hp c (List.mem_cons_of_mem _ hc)) (hs.drop _) (by rw[List.length_drop];omega);refine⟨?_,fun x hx=>?_⟩
  ·show((layT n c.2 s).2.1++(layKs (layT n) r9 (s.drop (freshN n c.2))).2.1).map (·.1)=_
   rw[List.map_append,g1,i1,List.take_add]
  ·rcases List.mem_append.1 hx with hx|hx
   ·exact g2 x hx
   ·exact i2 x hx
theorem drop_take {s:List Int} {k:Nat} (h:1+k≤s.length):s.take k++[(s.drop k).headD 0]=s.take (1+k):=by
 have e:s.drop k=s[k]'(by omega)::s.drop (k+1):=List.drop_eq_getElem_cons (by omega);have e2:s.take (1+k)=s.take k++[s[k]'(by omega)]:=by rw[Nat.add_comm];exact List.take_succ_eq_append_getElem (by omega)
 rw[e,e2]
 rfl
theorem layT_writes {N:Nat}:∀(n:Nat) (t:Tr),Fits n t→∀s,Spots N s→freshN n t≤s.length→(layT n t s).2.1.map (·.1)=s.take (freshN n t)∧∀x∈(layT n t s).2.1,x.2.length=128
 | 0,t,h,_,_,_=>by obtain⟨⟨_,_,h1⟩,_⟩:=h;exact h1.elim
 | n+1,.leaf p l,h,s,hs,hl=>by
  obtain⟨⟨lo,hi,hn0,hlo⟩,hb,hsum,h0,_⟩:=h;have hne:l≠[]:=fun e=>by rw[freshN,if_pos e] at h0;exact h0 rfl
  obtain⟨_,hbv⟩:=bare_vals hb;rw[freshN,if_neg hne] at hl ⊢;rw[layT,if_neg hne];obtain⟨i1,i2⟩:=layVs_writes hbv hs (by omega);have hnb:=leaf_nodeB hlo hbv hs (by omega) hne hsum;refine⟨?_,fun x hx=>?_⟩
  ·show((layVs l s).2.1++[((layVs l s).2.2.headD 0,_)]).map (fun x:Wr=>x.1)=_
   rw[List.map_append,i1,layVs_left];exact drop_take hl
  ·rcases List.mem_append.1 hx with hx|hx
   ·exact i2 x hx
   ·rw[List.mem_singleton.1 hx]
    exact putN_len hnb
 | n+1,.node p l,h,s,hs,hl=>by
  have hks:=fits_kids h;rw[freshN] at hl ⊢;rw[layT];obtain⟨i1,i2⟩:=layKs_writes (fun t h s hs hl=>layT_writes n t h s hs hl) hks hs (by omega);have hnb:=node_nodeB h hs (by omega);refine⟨?_,fun x hx=>?_⟩
  ·show((layKs (layT n) l s).2.1++[((layKs (layT n) l s).2.2.headD 0,_)]).map (fun x:Wr=>x.1)=_
   rw[List.map_append,i1,layKs_left (fun t s=>layT_left n t s)];exact drop_take hl
  ·rcases List.mem_append.1 hx with hx|hx
   ·exact i2 x hx
   ·rw[List.mem_singleton.1 hx]
    exact putN_len hnb
theorem whole_writes {N n:Nat} {t:Tr} (h:Whole n t) (hb:Bare t) {s:List Int} (hs:Spots N s) (hl:freshN n t≤s.length):(layT n t s).2.1.map (·.1)=s.take (freshN n t)∧∀x∈(layT n t s).2.1,x.2.length=128:=by
 by_cases h0:freshN n t=0
 ·have ht:=fresh_zero h h0
  have hp0:t.page=0:=hb.page0;rw[hp0] at ht;subst ht;cases n with
  | zero=>exact h.1.1.elim
  | succ n=>rw[layT,if_pos rfl,h0];simp
 ·exact layT_writes n t (fits_whole h hb h0) s hs hl
def Wrtn (g:Nat→List UInt8) (N:Nat) (W:List Wr) (i:Nat) (d:List Rg):Prop:=∃f,RegAt d 0 N f∧Stand f (W.take i)∧∀p,(∀x∈W.take i,x.1.toNat≠p)→f p=g p
theorem Wrtn.start {d:List Rg} {N:Nat} {g:Nat→List UInt8} (h:RegAt d 0 N g) (W:List Wr):Wrtn g N W 0 d:=⟨g,h,fun x hx=>by simp at hx,fun p _=>rfl⟩
theorem Wrtn.step {g:Nat→List UInt8} {d:List Rg} {N i:Nat} {W:List Wr} (h:Wrtn g N W i d) (hn:(W.map (·.1)).Nodup) (hp:∀x∈W,0≤x.1∧x.1<N) {x:Wr} (hx:W[i]? = some x) (hb:x.2.length=128):writeE d 0 x.1 x.2=0∧Wrtn g N W (i+1) (writeD d 0 x.1 x.2):=by
 obtain⟨f,h1,h2,h3⟩:=h;have hxm:=List.mem_of_getElem? hx;have hpx:=hp x hxm;obtain⟨e,g1,_⟩:=h1.write (p:=x.1) hpx hb;obtain⟨hi,hxe⟩:=List.getElem?_eq_some_iff.1 hx;have ht:W.take (i+1)=W.take i++[x]:=by rw[List.take_succ_eq_append_getElem hi,hxe]
 have hother:∀y∈W.take i,y.1.toNat≠x.1.toNat:=fun y hy he=>by
  have hym:=List.mem_of_mem_take hy;have:=hp y hym;have he2:y.1=x.1:=by omega
  obtain⟨j,hj,hje⟩:=List.getElem_of_mem hy;rw[List.length_take] at hj;rw[List.getElem_take] at hje;have h9:=List.pairwise_iff_getElem.1 hn j i (by simp;omega) (by simpa using hi) (by omega);simp only[List.getElem_map] at h9;exact h9 (by rw[hje,hxe];exact he2)
 refine⟨e,_,g1,fun y hy=>?_,fun p hp9=>?_⟩
 ·rw[ht] at hy
  unfold upd
  rcases List.mem_append.1 hy with hy|hy
  ·rw[if_neg (hother y hy)]
   exact h2 y hy
  ·rw[List.mem_singleton.1 hy,if_pos rfl]
 ·rw[ht] at hp9
  unfold upd;rw[if_neg (fun e=>hp9 x (List.mem_append_right _ (by simp)) e.symm)];exact h3 p (fun y hy=>hp9 y (List.mem_append_left _ hy))
theorem atZ_spots {fr m N:Nat} (h:2+fr+m≤N) (hN:N≤1000):Spots N ((List.range m).map fun(k:Nat)=>((2:Int)+(fr:Int)+(k:Int))):=by
 refine⟨?_,fun p hp=>?_⟩
 ·rw[List.nodup_iff_pairwise_ne,List.pairwise_map]
  exact List.nodup_range.imp (fun h e=>h (by omega))
 ·obtain⟨k,hk,rfl⟩:=List.mem_map.1 hp
  have:=List.mem_range.1 hk;unfold pgC;simp;omega
theorem CellsOwn.row {P:Program} {E t:TypeId} (ht:P.underlying t=some (.slice E)) (hi:RowInfo P E 4 80) {F:Nat→Prop} {n B:Nat} {w:World} {v:Value} {l:List Rc} (h:CellsOwn E F n B w v l) (hB:B≤w.heap.size) (hl:l.length≤100000) {a:Option Addr} {m c:Nat} {l2:List Rc} (hr:TabR 4 (RcOn (Gp F B v) n w) w a m c l2) (hm:m≤100000) :
 ∃v' w',(Builtin.append_ #[t,t] t #[v,.slice a m c]).run P w=.ok v' w'∧CellsOwn E F n B w' v' (l++l2)∧w.grownBy w' v.ownBlock:=by
 obtain⟨L,h1,h2⟩:=h;obtain⟨L2,r1,r2⟩:=TabR.raw hr (fun _ _ h=>h.one);obtain⟨i,z,i1,i2,i3,i4,i5⟩:=hi;have hlm:l2.length=m:=by rw[←r2.1];exact r1.1
 obtain⟨v',w',hr,ho,hg,hv⟩:=run_append_raw (P:=P) B t E i z 4 80 ht i1 i2 i3 i4 i5 (by decide) h1 r1 (by unfold maxLen;omega) (by omega) hB;refine⟨v',w',hr,⟨L++L2,?_,?_⟩,hg⟩
 ·rw[List.length_append,hlm];exact ho
 ·have hag:AgreeF (fun b=>v.ownBlock≠some b) w w':=⟨hg.size,fun b hb hlt=>hg.block b hlt (fun e=>hb e.symm)⟩
  have step:∀{cs:List Value} {y:Rc},RcOn (Gp F B v) n w cs y→RcOn (Gp F B v') n w' cs y:=fun h=>
   (h.lt.agree (hag.sub (fun b hb=>hb.1.2))).mono (fun b hb=>⟨hb.1.1,fun e=>by
    rcases hv with hv|hv
    ·rw[hv] at e;exact hb.1.2 e
    ·rw[hv] at e;have:=Option.some.inj e;have:=hb.2;omega⟩)
  exact(h2.mono (fun _ _ _ h=>step h)).append (r2.mono (fun _ _ _ h=>step h))
theorem RcOn.gp {E:TypeId} {F:Nat→Prop} {n B:Nat} {w:World} {v:Value} {l:List Rc} (h:CellsOwn E F n B w v l) (hF:∀b,F b→b<B) {cs:List Value} {y:Rc} {W:World} (hy:RcOn F n W cs y):RcOn (Gp F B v) n W cs y:=
 hy.mono (fun b hb=>⟨.inl hb,fun e=>by have:=(h.block e).1;have:=hF b hb;omega⟩)
def CellsTo (F:Nat→Prop) (n:Nat) (w:World) (l:List Rc) (e:Ending) (w':World):Prop:=∃v,e=.returned v∧CellsOwn 145 F n w.heap.size w' v l∧Below w.heap.size w w'
theorem info_Cw:RowInfo Tryz.prog 145 4 80:=row_info (by kernel_rfl)
theorem elem_Cw:Tryz.prog.underlying 25=some (.slice (Tryz.prog.elem 25)):=by kernel_rfl
theorem size_Cw (w:World):(sizeOf (Tryz.prog.elem 25)).run Tryz.prog w=.ok 4 w:=by kernel_rfl
theorem with_any {F:Nat→Prop} {n:Nat} {w:World} {a:Option Addr} {m c:Nat} {l:List Rc} {a2:Option Addr} {m2 c2:Nat} {l2:List Rc} (hF:∀b,F b→b<w.heap.size) (h:TabR 4 (RcOn F n w) w a m c l) (g:TabR 4 (RcOn F n w) w a2 m2 c2 l2) {k:Nat} (hk:k<m) (hm:m≤2000) (hm2:m2≤2000) :
 Calls Tryz.prog 129 #[.slice a m c,.int .i64 (k:Int),.slice a2 m2 c2] w (CellsTo F n w (l.take k++l2++l.drop (k+1))):=by
 obtain⟨e1,e2,e3⟩:=h.lens;obtain⟨g1,g2,g3⟩:=g.lens;have c0:CellsOwn 145 F n w.heap.size w (.slice none 0 0) []:=CellsOwn.nil _ _ _ _ _;obtain⟨v1,w1,hr1,c1,hg1⟩:=c0.row Tryz.underlying25 info_Cw (Nat.le_refl _) (by simp) (TabR.mono (TabR.tk h (show k≤m by omega)) (fun _ _ h=>RcOn.gp c0 hF h)) (by omega);have hb1:Below w.heap.size w w1:=(Below.refl _ _).grown hg1 (Nat.le_refl _) (fun g hg=>by cases hg);have r2:TabR 4 (RcOn (Gp F w.heap.size v1) n w1) w1 a2 m2 c2 l2:=TabR.mono (TabR.below (Nat.le_refl _) hb1 g) (fun cs y hy=>RcOn.gp c1 hF (RcOn.below hy hb1));have l1:([]++l.take k).length≤100000:=by simp;omega
 obtain⟨v2,w2,hr2,c2',hg2⟩:=c1.row Tryz.underlying25 info_Cw hb1.size l1 r2 (by omega);have hb2:Below w.heap.size w w2:=hb1.grown hg2 hb1.size (fun g hg=>(c1.block hg).1);obtain⟨a3,ha3,hsl⟩:=slice_from elem_Cw size_Cw a m c (k+1) (by omega);have hrow:TabR 4 (RcOn F n w) w a3 (m-(k+1)) (c-(k+1)) (l.drop (k+1)):=by rw[ha3];exact TabR.dp h (show k+1≤m by omega)
 have r3:TabR 4 (RcOn (Gp F w.heap.size v2) n w2) w2 a3 (m-(k+1)) (c-(k+1)) (l.drop (k+1)):=TabR.mono (TabR.below (Nat.le_refl _) hb2 hrow) (fun cs y hy=>RcOn.gp c2' hF (RcOn.below hy hb2));have l3:([]++l.take k++l2).length≤100000:=by simp;omega
 obtain⟨v3,w3,hr3,c3,hg3⟩:=c2'.row Tryz.underlying25 info_Cw hb2.size l3 r3 (by omega);have hb3:Below w.heap.size w w3:=hb2.grown hg3 hb2.size (fun g hg=>(c2'.block hg).1);have HE:Hid (CellsTo F n w (l.take k++l2++l.drop (k+1)) (.returned v3) w3):=Hd ⟨v3,rfl,by simpa using c3,hb3⟩;have hkc:k≤c:=by omega
 rw[show((k+1:Nat):Int)=(k:Int)+1 by omega] at hsl;clear c0 c1 c2' c3 r2 r3 l1 l3 hb1 hb2 hb3 hg1 hg2 hg3 ha3 hrow h g hF e1 g1;go_enter Tryz.func129,Tryz.ntmps129;go_upto_region 3 with(at_builtin;refine wpList_append_run rfl _ _ _ _ rfl rfl rfl hr1 ?_)
 go_upto_region 4 with(at_builtin;refine wpList_append_run rfl _ _ _ _ rfl rfl rfl hr2 ?_)
 go_wp2_with (at_builtin;refine wpList_append_run rfl _ _ _ _ rfl rfl rfl hr3 ?_)
 go_ret;exact HE.out
open Go.RowKit
def CellsF (E:TypeId) (F:Nat→Prop) (n B:Nat) (w:World) (v:Value) (l:List Rc):Prop:=∃L:List (Cl 4),w.ownsRow B E 4 v l.length (flatC L)∧Tells (RcOn F n w) L l
theorem CellsF.nil (E:TypeId) (F:Nat→Prop) (n B:Nat) (w:World):CellsF E F n B w (.slice none 0 0) []:=⟨[],own_nil w E 4 B,Tells.nil⟩
theorem CellsF.below {E:TypeId} {F:Nat→Prop} {n B:Nat} {w w':World} {v:Value} {l:List Rc} (h:CellsF E F n B w v l) (hb:Below w.heap.size w w'):CellsF E F n B w' v l:=by
 obtain⟨L,h1,h2⟩:=h;exact⟨L,own_held h1 hb,h2.mono (fun _ _ _ h=>h.below hb)⟩
theorem CellsF.set {E:TypeId} {F:Nat→Prop} {n B:Nat} {w:World} {v:Value} {l:List Rc} (h:CellsF E F n B w v l) {p:Addr} (u:Value) (hp:v.ownBlock≠some p.block) (hF:¬F p.block):CellsF E F n B (w.setCell p u) v l:=by
 obtain⟨L,h1,h2⟩:=h;exact⟨L,own_set h1 p u hp,h2.mono (fun _ _ _ h=>h.agree (AgreeF.set ⟨Nat.le_refl _,fun _ _ _=>rfl⟩ (.inl hF)))⟩
theorem CellsF.ge {E:TypeId} {F:Nat→Prop} {n B:Nat} {w:World} {v:Value} {l:List Rc} (h:CellsF E F n B w v l) {b:Nat} (hb:v.ownBlock=some b):B≤b∧b<w.heap.size:=by
 exact qbb2c82
theorem CellsF.own {E:TypeId} {F:Nat→Prop} {n B:Nat} {w:World} {v:Value} {l:List Rc} (h:CellsF E F n B w v l) (hF:∀b,F b→b<B):CellsOwn E F n B w v l:=by
 have hge:=fun b hb=>(h.ge (b:=b) hb).1
 obtain⟨L,h1,h2⟩:=h;exact⟨L,h1,h2.mono (fun _ _ _ h=>h.mono (fun b hb=>⟨.inl hb,fun e=>by have:=hge b e;have:=hF b hb;omega⟩))⟩
theorem CellsF.row {P:Program} {E t:TypeId} (ht:P.underlying t=some (.slice E)) (hi:RowInfo P E 4 80) {F:Nat→Prop} {n B:Nat} {w:World} {v:Value} {l:List Rc} (h:CellsF E F n B w v l) (hB:B≤w.heap.size) (hF:∀b,F b→b<B) (hl:l.length≤100000) {a:Option Addr} {m c:Nat} {l2:List Rc} (hr:TabR 4 (RcOn F n w) w a m c l2) (hm:m≤100000) :
 ∃v' w',(Builtin.append_ #[t,t] t #[v,.slice a m c]).run P w=.ok v' w'∧CellsF E F n B w' v' (l++l2)∧w.grownBy w' v.ownBlock:=by
 have hge:=fun b hb=>(h.ge (b:=b) hb).1
 obtain⟨L,h1,h2⟩:=h;obtain⟨L2,r1,r2⟩:=TabR.raw hr (fun _ _ h=>h.one);obtain⟨i,z,i1,i2,i3,i4,i5⟩:=hi;have hlm:l2.length=m:=by rw[←r2.1];exact r1.1
 obtain⟨v',w',hr,ho,hg,hv⟩:=run_append_raw (P:=P) B t E i z 4 80 ht i1 i2 i3 i4 i5 (by decide) h1 r1 (by unfold maxLen;omega) (by omega) hB;refine⟨v',w',hr,⟨L++L2,?_,?_⟩,hg⟩
 ·rw[List.length_append,hlm];exact ho
 ·have hag:AgreeF F w w':=⟨hg.size,fun b hb hlt=>hg.block b hlt (fun e=>by have:=hge b e.symm;have:=hF b hb;omega)⟩
  exact(h2.mono (fun _ _ _ h=>h.agree hag)).append (r2.mono (fun _ _ _ h=>h.agree hag))
theorem CellsF.key0 {E:TypeId} {F:Nat→Prop} {n B:Nat} {w:World} {g m c:Nat} {y:Rc} {r:List Rc} (h:CellsF E F n B w (.slice (some ⟨g,0,none⟩) m c) (y::r)) (hF:¬F g) (key:List UInt8) :
 CellsF E F n B (w.setCell ⟨g,0,none⟩ (.string (strOf key))) (.slice (some ⟨g,0,none⟩) m c) (⟨key,y.val,y.kid⟩::r):=by
 obtain⟨L,h1,h2⟩:=h;have hag:AgreeF F w (w.setCell ⟨g,0,none⟩ (.string (strOf key))):=AgreeF.set ⟨Nat.le_refl _,fun _ _ _=>rfl⟩ (.inl hF);cases L with
 | nil=>have:=h2.1;simp at this
 | cons x L'=>
  have hx:RcOn F n w x.1 y:=h2.2 0 x y rfl rfl;obtain⟨pa,pn,pc,ka,kn,kc,ex,k1,k2,k3,k4⟩:=hx;have hx':RcOn F n w [.string (strOf key),.string (strOf y.val.data),.slice pa pn pc,.slice ka kn kc] ⟨key,y.val,y.kid⟩:=⟨pa,pn,pc,ka,kn,kc,rfl,k1,k2,k3,k4⟩
  have hlen:(y::r).length=m:=by
   rcases h1.2 with⟨e,_⟩|⟨g',cap,cur,e,_⟩
   ·cases e
   ·cases e;rfl
  have g0:=own_put (by rw[hlen] at h1;exact h1) 0 (.string (strOf key)) (by rw[←hlen];simp);refine⟨⟨_,hx'.len,hx'.one⟩::L',?_,Tells.cons (hx'.agree hag) ?_⟩
  ·have e1:flatC (x::L')=x.1++flatC L':=rfl
   have e2:flatC ((⟨[.string (strOf key),.string (strOf y.val.data),.slice pa pn pc,.slice ka kn kc],hx'.len,hx'.one⟩:Cl 4)::L')=[.string (strOf key),.string (strOf y.val.data),.slice pa pn pc,.slice ka kn kc]++flatC L':=rfl;rw[e2];rw[e1,ex] at g0;rw[show(⟨key,y.val,y.kid⟩::r:List Rc).length=m by rw[←hlen];rfl];exact g0
  ·refine⟨by have:=h2.1;simpa using this,fun i a b ha hb=>?_⟩
   exact(h2.2 (i+1) a b (by simpa using ha) (by simpa using hb)).agree hag
theorem cells_part (A:Nat) (kid:Tr):cellsR (partT A kid).1=(cellsR kid).take A∧(partT A kid).1.page=0∧(partT A kid).1.isLeaf=kid.isLeaf∧(partT A kid).2.1.page=0∧(partT A kid).2.1.isLeaf=kid.isLeaf:=by
 cases kid<;>simp[partT,cellsR,Tr.page,Tr.isLeaf]
theorem cells_part_leaf (A:Nat) (p:Int) (l:List (List UInt8×Tv)):cellsR (partT A (.leaf p l)).2.1=(cellsR (.leaf p l)).drop A:=by simp[partT,cellsR]
theorem cells_part_node (A:Nat) (p:Int) (l:List (List UInt8×Tr)) {y:Rc} {r:List Rc} (h:(cellsR (.node p l)).drop A=y::r):cellsR (partT A (.node p l)).2.1=⟨[],y.val,y.kid⟩::r:=by
 simp only[partT,cellsR] at h ⊢;rw[←List.map_drop] at h;cases hd:l.drop A with
 | nil=>rw[hd] at h;cases h
 | cons c q=>
  rw[hd] at h;cases h
  rfl
theorem part_key (A:Nat) (kid:Tr) {y:Rc} {r:List Rc} (h:(cellsR kid).drop A=y::r):(partT A kid).2.2=y.key:=by
 have hk:(cellsR kid)[A]? = some y:=by
  have:=congrArg (fun l=>l[0]?) h;simpa[List.getElem?_drop] using this
 cases kid with
 | leaf p l=>
  rw[cellsR_leaf] at hk;obtain⟨c,h1,h2⟩:=Option.map_eq_some_iff.1 hk;subst h2;simp[partT,keyAt,h1]
 | node p l=>
  rw[cellsR_node] at hk;obtain⟨c,h1,h2⟩:=Option.map_eq_some_iff.1 hk;subst h2;simp[partT,keyAt,h1]
open Go.RowKit
theorem agr {F:Nat→Prop} (w:World):AgreeF F w w:=⟨Nat.le_refl _,fun _ _ _=>rfl⟩
theorem agal {F:Nat→Prop} {a w:World} {o:Obj} (h:AgreeF F a w):AgreeF F a (w.alloc o):=h.trans (.of_below (Below.al (Below.refl _ _)))
theorem agdr {F:Nat→Prop} {a w:World} (h:AgreeF F a w):AgreeF F a w.drew:=h
theorem agst {r:Nat} {a w:World} {i:Nat} {u:Value} (h:AgreeF (fun b=>b≠r) a w):AgreeF (fun b=>b≠r) a (w.setCell ⟨r,i,none⟩ u):=h.set (.inl fun h=>h rfl)
theorem one_kid {G:Nat→Prop} {n:Nat} {W:World} {b:Nat} {x0 x1 x2:Value} {t:Tr} (hx:BoxAt W b #[x0,x1,x2]) (h:RNodeOn G n W [x0,x1,x2] t):TabR 3 (RNodeOn G n W) W (some ⟨b,0,none⟩) 1 1 [t]:=by
 have hr:=raw_box (w:=W) (b:=b) (L:=[(⟨[x0,x1,x2],rfl,h.one⟩:Cl 3)]) hx (by show 1≤1000;omega);exact Raw.tab hr (Tells.one h)
theorem cell_kid {G:Nat→Prop} {n:Nat} {W:World} {b:Nat} {x0 x1 x2:Value} {t:Tr} (key:List UInt8) (hx:BoxAt W b #[x0,x1,x2]) (h:RNodeOn G n W [x0,x1,x2] t) (hb:G b) :
 RcOn G n W [.string (strOf key),.string (strOf []),.slice none 0 0,.slice (some ⟨b,0,none⟩) 1 1] ⟨key,⟨[],[]⟩,some t⟩:=
 ⟨none,0,0,some ⟨b,0,none⟩,1,1,rfl,⟨rfl,Nat.le_refl _,by unfold maxLen;omega,fun _=>rfl,.inl rfl⟩,.inl rfl,one_kid hx h,.inr fun b' off e=>by cases e;exact hb⟩
theorem two_cells {G:Nat→Prop} {n:Nat} {W:World} {z:Nat} {u0 u1 u2 u3 v0 v1 v2 v3:Value} {y y':Rc} (hz:BoxAt W z #[u0,u1,u2,u3,v0,v1,v2,v3]) (h:RcOn G n W [u0,u1,u2,u3] y) (g:RcOn G n W [v0,v1,v2,v3] y') :
 TabR 4 (RcOn G n W) W (some ⟨z,0,none⟩) 2 2 [y,y']:=by
 have hr:=raw_box (w:=W) (b:=z) (L:=[(⟨[u0,u1,u2,u3],rfl,h.one⟩:Cl 4),⟨[v0,v1,v2,v3],rfl,g.one⟩]) hz (by show 2≤1000;omega);exact Raw.tab hr (Tells.cons h (Tells.one g))
theorem one_cell {G:Nat→Prop} {n:Nat} {W:World} {z:Nat} {u0 u1 u2 u3:Value} {y:Rc} (hz:BoxAt W z #[u0,u1,u2,u3]) (h:RcOn G n W [u0,u1,u2,u3] y) :
 TabR 4 (RcOn G n W) W (some ⟨z,0,none⟩) 1 1 [y]:=by
 have hr:=raw_box (w:=W) (b:=z) (L:=[(⟨[u0,u1,u2,u3],rfl,h.one⟩:Cl 4)]) hz (by show 1≤1000;omega);exact Raw.tab hr (Tells.one h)
theorem split_cells {l:List (List UInt8×Tr)} {k A:Nat} {kid:Tr} {xk:List UInt8} (hx:l[k]? = some (xk,kid)) (hA:atF (sizesT kid)=(A:Int)) (h0:0<A) (p:Int) :
 ∃m,splitT l k=some m∧cellsR (.node 0 m)=(cellsR (.node p l)).take k++[⟨xk,⟨[],[]⟩,some (partT A kid).1⟩,⟨(partT A kid).2.2,⟨[],[]⟩,some (partT A kid).2.1⟩]++(cellsR (.node p l)).drop (k+1):=by
 have hkey:keyAt l k=xk:=by unfold keyAt;rw[hx];rfl
 have hkd:kidAt l k=kid:=by unfold kidAt;rw[hx];rfl
 refine⟨l.take k++((xk,(partT A kid).1)::((partT A kid).2.2,(partT A kid).2.1)::l.drop (k+1)),?_,?_⟩
 ·unfold splitT
  rw[hkd,hkey,hA,if_neg (by omega),Int.toNat_natCast]
 ·simp[cellsR,List.map_take,List.map_drop]
def RowTo (G:Nat→Prop) (n:Nat) (wc:World) (t:Tr) (m:Nat) (e:Ending) (w':World):Prop:=
 ∃a d,e=.returned (.slice a m d)∧RNodeOn G (n+1) w' [.int .i64 0,.bool t.isLeaf,.slice a m d] t∧Below wc.heap.size wc w'
theorem row_to {G:Nat→Prop} {n:Nat} {wc W w':World} {e:Ending} {t:Tr} {m:Nat} {cs:List Rc} (hp:t.page=0) (hm:cntT t=m) (hl:cellsR t=cs) (hb:Below wc.heap.size wc W) (hG:∀b,W.heap.size≤b→G b)
 (h:CellsTo (fun x=>G x∧x<W.heap.size) n W cs e w'):RowTo G n wc t m e w':=by
 subst hl hm;obtain⟨v,rfl,h1,h2⟩:=h;obtain⟨a,d,rfl,_,_,k1,k2⟩:=h1.sl;rw[cellsR_len] at k1 k2 ⊢;refine⟨a,d,rfl,?_,below_via hb h2⟩;have:=RNodeOn.mk (t:=t) (F:=G) (TabR.mono k1 (fun _ _ h=>h.mono (fun b hb=>by
  rcases hb.1 with hb|hb
  ·exact hb.1
  ·exact hG b hb))) (k2.mono hG)
 rw[hp] at this;exact this
theorem with_to {G:Nat→Prop} {n:Nat} {wc W:World} {a:Option Addr} {m c:Nat} {L:List Rc} {a2:Option Addr} {m2 c2 k:Nat} {l2:List Rc} {t:Tr} {q:Nat} (hp:t.page=0) (hq:cntT t=q) (hl:cellsR t=L.take k++l2++L.drop (k+1)) (hb:Below wc.heap.size wc W) (hG:∀b,wc.heap.size≤b→G b)
 (h:TabR 4 (RcOn G n W) W a m c L) (g:TabR 4 (RcOn G n W) W a2 m2 c2 l2) (hk:k<m) (hm:m≤2000) (hm2:m2≤2000) :
 Calls Tryz.prog 129 #[.slice a m c,.int .i64 (k:Int),.slice a2 m2 c2] W (RowTo G n wc t q):=
 (with_any (fun _ h=>h.2) (TabR.mono h (fun _ _ hy=>RcOn.lt hy)) (TabR.mono g (fun _ _ hy=>RcOn.lt hy)) hk hm hm2).mono fun _ _ h=>row_to hp hq hl hb (fun b h=>hG b (Nat.le_trans hb.size h)) h
theorem with_two {G:Nat→Prop} {n:Nat} {wc W:World} {a:Option Addr} {m c k:Nat} {L:List Rc} {t:Tr} {q:Nat} (hp:t.page=0) (hq:cntT t=q) (hb:Below wc.heap.size wc W) (hG:∀b,wc.heap.size≤b→G b) (h:TabR 4 (RcOn G n wc) wc a m c L) (hk:k<m) (hm:m≤2000) {ra rb z:Nat} {xk key:List UInt8} {TA TB:Tr} {x0 x1 x2 y0 y1 y2:Value} {v0:_}
 (hl:cellsR t=L.take k++[⟨xk,⟨[],[]⟩,some TA⟩,⟨key,⟨[],[]⟩,some TB⟩]++L.drop (k+1)) (hv:v0=strOf []) (g1:RNodeOn G n wc [x0,x1,x2] TA) (g2:RNodeOn G n wc [y0,y1,y2] TB) (r1:wc.heap.size≤ra) (r2:wc.heap.size≤rb)
 (hA:BoxAt W ra #[x0,x1,x2]) (hB:BoxAt W rb #[y0,y1,y2]) (hz:BoxAt W z #[.string (strOf xk),.string v0,.slice none 0 0,.slice (some ⟨ra,0,none⟩) 1 1,.string (strOf key),.string v0,.slice none 0 0,.slice (some ⟨rb,0,none⟩) 1 1]) :
 Calls Tryz.prog 129 #[.slice a m c,.int .i64 (k:Int),.slice (some ⟨z,0,none⟩) 2 2] W (RowTo G n wc t q):=by
 subst hv;exact with_to hp hq hl hb hG (TabR.mono (TabR.below (Nat.le_refl _) hb h) (fun _ _ hy=>RcOn.below hy hb)) (two_cells hz (cell_kid xk hA (g1.below hb) (hG _ r1)) (cell_kid key hB (g2.below hb) (hG _ r2))) hk hm (by omega)
theorem with_one {G:Nat→Prop} {n:Nat} {wc W:World} {a:Option Addr} {m c k:Nat} {L:List Rc} {t:Tr} {q:Nat} (hp:t.page=0) (hq:cntT t=q) (hb:Below wc.heap.size wc W) (hG:∀b,wc.heap.size≤b→G b) (h:TabR 4 (RcOn G n wc) wc a m c L) (hk:k<m) (hm:m≤2000) {ra z:Nat} {xk:List UInt8} {TA:Tr} {x0 x1 x2:Value} {v0:_}
 (hl:cellsR t=L.take k++[⟨xk,⟨[],[]⟩,some TA⟩]++L.drop (k+1)) (hv:v0=strOf []) (g1:RNodeOn G n wc [x0,x1,x2] TA) (r1:wc.heap.size≤ra)
 (hA:BoxAt W ra #[x0,x1,x2]) (hz:BoxAt W z #[.string (strOf xk),.string v0,.slice none 0 0,.slice (some ⟨ra,0,none⟩) 1 1]) :
 Calls Tryz.prog 129 #[.slice a m c,.int .i64 (k:Int),.slice (some ⟨z,0,none⟩) 1 1] W (RowTo G n wc t q):=by
 subst hv;exact with_to hp hq hl hb hG (TabR.mono (TabR.below (Nat.le_refl _) hb h) (fun _ _ hy=>RcOn.below hy hb)) (one_cell hz (cell_kid xk hA (g1.below hb) (hG _ r1))) hk hm (by omega)
theorem RNodeOn.put3 {G:Nat→Prop} {n:Nat} {W:World} {cs:List Value} {t:Tr} (h:RNodeOn G n W cs t) {r:Nat} (hr:¬G r) (u0 u1 u2:Value):RNodeOn G n (((W.setCell ⟨r,0,none⟩ u0).setCell ⟨r,1,none⟩ u1).setCell ⟨r,2,none⟩ u2) cs t:=
 h.agree (((AgreeF.set (AgreeF.set (AgreeF.set ⟨Nat.le_refl _,fun _ _ _=>rfl⟩ (.inl hr)) (.inl hr)) (.inl hr))))
open Go.RowKit
def firstRc (key:List UInt8) (lf:Bool):List Rc→List Rc
 | []=>[]
 | y::r=>if lf then y::r else ⟨key,y.val,y.kid⟩::r
theorem firstRc_len (key:List UInt8) (lf:Bool) (L:List Rc):(firstRc key lf L).length=L.length:=by
 cases L with
 | nil=>rfl
 | cons y r=>cases lf<;>rfl
theorem firstRc_at (key:List UInt8) (lf:Bool) (L:List Rc) (i:Nat) {y:Rc} (h:L[i]? = some y):(firstRc key lf L)[i]? = some (if i=0∧lf=false then ⟨key,y.val,y.kid⟩ else y):=by
 cases L with
 | nil=>simp at h
 | cons x r=>
  cases i with
  | zero=>simp at h;subst h;cases lf<;>simp[firstRc]
  | succ i=>simp at h;cases lf<;>simp[firstRc,h]
theorem firstRc_succ (key:List UInt8) (lf:Bool) (L:List Rc) (i:Nat) {y:Rc} (h:L[i]? = some y):(firstRc key lf L).take (i+1)=(firstRc key lf L).take i++[if i=0∧lf=false then ⟨key,y.val,y.kid⟩ else y]:=by
 rw[List.take_add_one,firstRc_at key lf L i h];rfl
theorem join_cells {key:List UInt8} {a b:Tr} (h:a.isLeaf=b.isLeaf):cellsR (joinT key a b)=cellsR a++firstRc key b.isLeaf (cellsR b)∧(joinT key a b).page=0∧(joinT key a b).isLeaf=a.isLeaf:=by
 cases a with
 | leaf p l=>
  cases b with
  | leaf q m=>exact⟨by cases m<;>simp[joinT,cellsR,firstRc,Tr.isLeaf],rfl,rfl⟩
  | node q m=>cases h
 | node p l=>
  cases b with
  | leaf q m=>cases h
  | node q m=>exact⟨by cases m<;>simp[joinT,cellsR,firstRc,Tr.isLeaf,firstK],rfl,rfl⟩
theorem join_rows {l:List (List UInt8×Tr)} {j:Nat} (hj:j+1<l.length) (p:Int) :
 cellsR (.node 0 (l.take (j+1)++l.drop (j+2)))=(cellsR (.node p l)).take (j+1)++[]++(cellsR (.node p l)).drop (j+1+1) ∧
 cellsR (.node 0 (joined l j))=(cellsR (.node 0 (l.take (j+1)++l.drop (j+2)))).take j++[⟨keyAt l j,⟨[],[]⟩,some (joinT (keyAt l (j+1)) (kidAt l j) (kidAt l (j+1)))⟩]++(cellsR (.node 0 (l.take (j+1)++l.drop (j+2)))).drop (j+1) ∧
 (l.take (j+1)++l.drop (j+2)).length+1=l.length∧(joined l j).length+1=l.length:=by
 have h1:(l.take (j+1)).length=j+1:=by simp;omega
 have h2:(l.take (j+1)++l.drop (j+2)).take j=l.take j:=by rw[List.take_append_of_le_length (by omega),List.take_take,Nat.min_eq_left (by omega)]
 have h3:(l.take (j+1)++l.drop (j+2)).drop (j+1)=l.drop (j+2):=by rw[List.drop_append_of_le_length (by omega),List.drop_eq_nil_of_le (by omega),List.nil_append]
 refine⟨by simp[cellsR,List.map_take,List.map_drop],?_,by simp;omega,by unfold joined;simp;omega⟩;simp only[cellsR];rw[←List.map_take,←List.map_drop,h2,h3];simp[joined]
theorem CellsF.append {P:Program} {E t:TypeId} (ht:P.underlying t=some (.slice E)) (hi:RowInfo P E 4 80) {F:Nat→Prop} {n B:Nat} {w:World} {v:Value} {l:List Rc} (h:CellsF E F n B w v l) (hB:B≤w.heap.size) (hF:∀b,F b→b<B) (hl:l.length≤100000) {cs:List Value} {y:Rc} (hy:RcOn F n w cs y) :
 ∃v' w',(Builtin.append_ #[t,t] t #[v,.slice (some ⟨w.heap.size,0,none⟩) 1 1]).run P (w.alloc (.cells cs.toArray E))=.ok v' w'∧CellsF E F n B w' v' (l++[y])∧w.grownBy w' v.ownBlock:=by
 have hge:=fun b hb=>(h.ge (b:=b) hb).1
 obtain⟨L,h1,h2⟩:=h;obtain⟨i,z,i1,i2,i3,i4,i5⟩:=hi;obtain⟨v',w',hr,ho,hg,hv⟩:=run_append_new (P:=P) B t E i z 4 80 ht i1 i2 i3 i4 i5 (by decide) h1 cs.toArray (by simpa using hy.len) (by simpa using hy.one) (by unfold maxLen;omega) (by omega) hB;refine⟨v',w',hr,⟨L++[⟨cs,hy.len,hy.one⟩],?_,?_⟩,hg⟩
 ·have e:flatC (L++[⟨cs,hy.len,hy.one⟩])=flatC L++cs:=by rw[flatC_append];exact congrArg (flatC L++·) (List.append_nil cs)
  rw[e,List.length_append];exact ho
 ·have hag:AgreeF F w w':=⟨hg.size,fun b hb hlt=>hg.block b hlt (fun e=>by have:=hge b e.symm;have:=hF b hb;omega)⟩
  exact(h2.mono (fun _ _ _ h=>h.agree hag)).append (Tells.one (hy.agree hag))
theorem rnode_end {F G:Nat→Prop} {n:Nat} {w w':World} {T:Tr} {r:Nat} {p:Int} {lf:Bool} {a:Option Addr} {m d:Nat} (hr:w.heap.size≤r) (hG:¬G r) (hGF:∀b,G b→Fr F w b) (h:RNodeOn G n w' [.int .i64 p,.bool lf,.slice a m d] T) (hb:Below w.heap.size w w') :
 RNodeTo F n w T (.returned (.agg #[.int .i64 p,.bool lf,.slice a m d])) (((w'.setCell ⟨r,0,none⟩ (.int .i64 p)).setCell ⟨r,1,none⟩ (.bool lf)).setCell ⟨r,2,none⟩ (.slice a m d)):=
 ⟨[.int .i64 p,.bool lf,.slice a m d],rfl,(h.put3 hG _ _ _).mono hGF,((hb.setCell (by simpa using hr) _).setCell (by simpa using hr) _).setCell (by simpa using hr) _⟩
theorem rend {F G:Nat→Prop} {n:Nat} {w w':World} {T:Tr} {r:Nat} {p:Int} {lf:Bool} {a:Option Addr} {m d:Nat} {x0 x1 x2:Value} (hx:Boxes w' [(r,[x0,x1,x2])]) (hr:w.heap.size≤r) (hG:¬G r) (hGF:∀b,G b→Fr F w b) (h:RNodeOn G n w' [.int .i64 p,.bool lf,.slice a m d] T) (hb:Below w.heap.size w w') :
 (((w'.setCell ⟨r,0,none⟩ (.int .i64 p)).setCell ⟨r,1,none⟩ (.bool lf)).setCell ⟨r,2,none⟩ (.slice a m d)).cell? ⟨r,0,none⟩=some (.int .i64 p) ∧
 (((w'.setCell ⟨r,0,none⟩ (.int .i64 p)).setCell ⟨r,1,none⟩ (.bool lf)).setCell ⟨r,2,none⟩ (.slice a m d)).cell? ⟨r,1,none⟩=some (.bool lf) ∧
 (((w'.setCell ⟨r,0,none⟩ (.int .i64 p)).setCell ⟨r,1,none⟩ (.bool lf)).setCell ⟨r,2,none⟩ (.slice a m d)).cell? ⟨r,2,none⟩=some (.slice a m d) ∧
 Hid (RNodeTo F n w T (.returned (.agg #[.int .i64 p,.bool lf,.slice a m d])) (((w'.setCell ⟨r,0,none⟩ (.int .i64 p)).setCell ⟨r,1,none⟩ (.bool lf)).setCell ⟨r,2,none⟩ (.slice a m d))):=by
 have hxe:=((hx.put 0 (.int .i64 p) (by simp)).put 1 (.bool lf) (by simp)).put 2 (.slice a m d) (by simp);exact⟨hxe.cell 0 0 rfl rfl,hxe.cell 0 1 rfl rfl,hxe.cell 0 2 rfl rfl,Hd (rnode_end hr hG hGF h hb)⟩
theorem RNodeTo.split {F:Nat→Prop} {n:Nat} {w w':World} {t:Tr} {e:Ending} (h:RNodeTo F n w t e w'):∃p l a m d,e=.returned (.agg #[.int .i64 p,.bool l,.slice a m d])∧RNodeOn (Fr F w) n w' [.int .i64 p,.bool l,.slice a m d] t∧Below w.heap.size w w':=by
 obtain⟨cs,rfl,h1,h2⟩:=h;cases n with
 | zero=>exact h1.elim
 | succ n=>
  obtain⟨a,c,rfl,_⟩:=h1.at;exact⟨_,_,_,_,_,rfl,h1,h2⟩
theorem RNodeOn.row {G:Nat→Prop} {n:Nat} {w:World} {x y:Value} {a:Option Addr} {m d:Nat} {t:Tr} (h:RNodeOn G (n+1) w [x,y,.slice a m d] t) (hm:cntT t=m):TabR 4 (RcOn G n w) w a m d (cellsR t):=by
 obtain⟨a',d',e,h1,_⟩:=h.at;simp only[List.cons.injEq,Value.slice.injEq,and_true] at e;obtain⟨_,_,rfl,_,rfl⟩:=e;rw[hm] at h1;exact h1
theorem RNodeOn.kid {F:Nat→Prop} {n:Nat} {w:World} {a:Option Addr} {m c:Nat} {p:Int} {l:List (List UInt8×Tr)} (h:TabR 4 (RcOn F n w) w a m c (cellsR (.node p l))) {k:Nat} (hk:k<m) :
 ∃b off bk ok kcs pa pn pc kc,a=some ⟨b,off,none⟩∧b<w.heap.size∧bk<w.heap.size∧RNodeOn F n w kcs (kidAt l k)∧w.cell? ⟨b,off+k*4,none⟩=some (.string (strOf (keyAt l k)))∧w.cell? ⟨b,off+k*4+1,none⟩=some (.string (strOf []))∧w.cell? ⟨b,off+k*4+2,none⟩=some (.slice pa pn pc) ∧
  w.cell? ⟨b,off+k*4+3,none⟩=some (.slice (some ⟨bk,ok,none⟩) 1 kc)∧(∀j v,kcs[j]? = some v→w.cell? ⟨bk,ok+j,none⟩=some v)∧1≤kc∧kc≤9223372036854775807:=by
 obtain⟨b,off,y,pa,pn,pc,ka,kn,kc,rfl,hbb,hy,_,_,_,hkid,hfk,c0,c1,c2,c3⟩:=RNodeOn.cell h hk;rw[cellsR_node] at hy;obtain⟨x,hx1,hx2⟩:=Option.map_eq_some_iff.1 hy;subst hx2;have s1:=hkid.lens;obtain rfl:kn=1:=s1.1.symm;obtain⟨bk,ok,kd,kcs,rfl,hbk,hyk,_,hon,hck⟩:=TabR.at hkid (show 0<1 by omega);cases hyk;have hkey:keyAt l k=x.1:=by unfold keyAt;rw[hx1];rfl
 have hkd:kidAt l k=x.2:=by unfold kidAt;rw[hx1];rfl
 refine⟨b,off,bk,ok,kcs,pa,pn,pc,kc,rfl,hbb,hbk,by rw[hkd];exact hon,by rw[hkey];exact c0,c1,c2,c3,fun j v hv=>by simpa using hck j v hv,s1.2.1,s1.2.2⟩
open Go.RowKit
theorem IsLcAt {w:World} {a:Option Addr} {n c:Nat} {l:List (List UInt8×Tv)} (h:TabR 4 (IsLc w) w a n c l) {k:Nat} (hk:k<n) :
 ∃b off y,a=some ⟨b,off,none⟩∧b<w.heap.size∧l[k]? = some y∧w.cell? ⟨b,off+k*4,none⟩=some (.string (strOf y.1))∧w.cell? ⟨b,off+k*4+1,none⟩=some (.string (strOf y.2.data)):=by
 obtain⟨b,off,y,cs,e1,e2,e3,_,⟨pa,pn,pc,ka,kc,rfl,_⟩,e6⟩:=TabR.at h hk;exact⟨b,off,y,e1,e2,e3,e6 0 _ rfl,e6 1 _ rfl⟩
theorem IsNcAt {n:Nat} {w:World} {a:Option Addr} {m c:Nat} {l:List (List UInt8×Tr)} (h:TabR 4 (IsNc n w) w a m c l) {k:Nat} (hk:k<m) :
 ∃b off y,a=some ⟨b,off,none⟩∧b<w.heap.size∧l[k]? = some y∧w.cell? ⟨b,off+k*4,none⟩=some (.string (strOf y.1)):=by
 obtain⟨b,off,y,cs,e1,e2,e3,_,⟨pa,pc,ka,kc,rfl,_⟩,e6⟩:=TabR.at h hk;exact⟨b,off,y,e1,e2,e3,e6 0 _ rfl⟩
theorem RIn.node {n:Nat} {w:World} {cs:List Value} {p:Int} {l:List (List UInt8×Tr)} (h:RIn (n+1) w cs (.node p l)):∃a m c,cs=[.int .i64 p,.bool false,.slice a m c]∧TabR 4 (IsNc n w) w a m c l:=h
theorem RIn.leaf {n:Nat} {w:World} {cs:List Value} {p:Int} {l:List (List UInt8×Tv)} (h:RIn (n+1) w cs (.leaf p l)):∃a m c,cs=[.int .i64 p,.bool true,.slice a m c]∧TabR 4 (IsLc w) w a m c l:=h
theorem RIn.any {n:Nat} {w:World} {cs:List Value} {t:Tr} (h:RIn (n+1) w cs t):∃a c,cs=[.int .i64 t.page,.bool t.isLeaf,.slice a (cntT t) c]∧cntT t≤c∧c≤9223372036854775807∧t.keys.length=cntT t ∧
 ∀k,k<cntT t→∃b off,a=some ⟨b,off,none⟩∧b<w.heap.size∧w.cell? ⟨b,off+k*4,none⟩=some (.string (strOf (t.keys[k]?.getD []))):=by
 cases t with
 | leaf p l=>
  obtain⟨a,m,c,rfl,h1⟩:=h.leaf;obtain⟨e1,e2,e3⟩:=h1.lens;subst e1;refine⟨a,c,rfl,e2,e3,by simp[Tr.keys,keysOf,cntT],fun k hk=>?_⟩;obtain⟨b,off,y,f1,f2,f3,f4,_⟩:=IsLcAt h1 hk;exact⟨b,off,f1,f2,by rw[f4];simp[Tr.keys,keysOf,f3]⟩
 | node p l=>
  obtain⟨a,m,c,rfl,h1⟩:=h.node;obtain⟨e1,e2,e3⟩:=h1.lens;subst e1;refine⟨a,c,rfl,e2,e3,by simp[Tr.keys,keysOf,cntT],fun k hk=>?_⟩;obtain⟨b,off,y,f1,f2,f3,f4⟩:=IsNcAt h1 hk;exact⟨b,off,f1,f2,by rw[f4];simp[Tr.keys,keysOf,f3]⟩
theorem wayD_step (ks:List (List UInt8)) (key:List UInt8) (n:Nat):wayD ks key (n+1)=if key<ks[n+1]?.getD [] then wayD ks key n else n+1:=rfl
theorem rway_any {n:Nat} {w:World} {cs:List Value} {t:Tr} (h:RIn n w cs t) (key:List UInt8) (hc:cntT t≤1000) :
 Calls Tryz.prog 128 #[.agg cs.toArray,.string (strOf key)] w fun e w'=>e=.returned (.int .i64 (wayF t.keys key:Int))∧Below w.heap.size w w':=by
 cases n with
 | zero=>exact h.elim
 | succ n=>
 obtain⟨a,c,rfl,h2,h3,h4,h5⟩:=h.any;have HC:=Hd h5;have HL:=Hd h4;have hA:Below w.heap.size w (w.alloc (.cells #[.int .i64 t.page,.bool t.isLeaf,.slice a (cntT t) c] 27)):=(Below.refl _ _).alloc (Nat.le_refl _) _;have HBX:=Hd ((Boxes.nil w).alloc #[.int .i64 t.page,.bool t.isLeaf,.slice a (cntT t) c] 27 rfl);have HW:Hid (wayF t.keys key=wayD t.keys key (cntT t-1)):=Hd (by unfold wayF;rw[h4]);generalize t.keys=K at *;generalize cntT t=m at *;generalize t.page=pg at *;generalize t.isLeaf=lf at *;obtain⟨R,hR⟩:∃R,wayF K key=R:=⟨_,rfl⟩
 rw[hR] at HW ⊢;obtain⟨wA,hwA⟩:∃wA,w.alloc (.cells #[.int .i64 pg,.bool lf,.slice a m c] 27)=wA:=⟨_,rfl⟩
 rw[hwA] at hA HBX;have HA:=Hd hA;have f2:=HBX.out.cell 0 2 rfl rfl;clear h h4 h5 hR hA;go_enter Tryz.func128,Tryz.ntmps128;go_wp2_with fail;clear hwA
 go_loop [5] (fun s=>(m=0∧s=.int .i64 (-1))∨(0<m∧∃i:Nat,i<m∧s=.int .i64 i∧R=wayD K key i)) (fun s=>(intOf s).toNat)
 case atStart=>
  by_cases h0:m=0
  ·exact .inl ⟨h0,by rw[h0];rfl⟩
  ·exact .inr ⟨by omega,m-1,by omega,by congr 1;omega,HW.out⟩
 case round=>
  rcases hrel with⟨rfl,rfl⟩|⟨hm,i,hi,rfl,hr⟩
  ·go_wp2_with fail
   go_ret;exact⟨ret_int (by rw[HW.out];rfl),HA.out⟩
  ·cases i with
   | zero=>
    have HR:=Hd hr;clear hr;go_wp2_with fail;go_ret;exact⟨ret_int (by rw[HR.out]<;>rfl),HA.out⟩
   | succ i=>
    have d0:decide ((0:Int)<((i+1:Nat):Int))=true:=by simp<;>omega
    obtain⟨b,off,rfl,hb,hcell⟩:=HC.out (i+1) hi;have c1:=(HA.out.cell (p:=⟨b,off+(i+1)*4,none⟩) hb).trans hcell;rw[wayD_step] at hr;generalize K[i+1]?.getD []=k at *;clear hcell
    rcases ktri key k with hlt|rfl|hlt
    ·rw[if_pos hlt] at hr
     obtain⟨_,e3,e1,e2⟩:=cmp_lt hlt;clear e3;have HR:=Hd hr;clear hr hlt;go_wp2_with fail
     go_round
     case rel=>exact .inr ⟨hm,i,by omega,by first|rfl|(congr 1;omega),HR.out⟩
     case measure=>simp[intOf]<;>omega
    ·rw[if_neg (klt_irrefl _)] at hr
     obtain⟨e1,e2⟩:=cmp_eq key;have HR:=Hd hr;clear hr;go_wp2_with fail;go_ret;exact⟨ret_int (by rw[HR.out];go_num),HA.out⟩
    ·rw[if_neg (klt_asymm hlt)] at hr
     obtain⟨e1,e2,e3,e4⟩:=cmp_lt hlt;clear e3 e4;have HR:=Hd hr;clear hr hlt;go_wp2_with fail;go_ret;exact⟨ret_int (by rw[HR.out];go_num),HA.out⟩
open Go.RowKit
theorem TabR.unmap {α β:Type} {sz:Nat} {R:List Value→β→Prop} {f:α→β} {w:World} {a:Option Addr} {n c:Nat} {l:List α} (h:TabR sz R w a n c (l.map f)):TabR sz (fun cs y=>R cs (f y)) w a n c l:=by
 obtain⟨h1,h2,h3,hn,h4⟩:=h;refine⟨by simpa using h1,h2,h3,hn,?_⟩
 rcases h4 with h4|⟨b,off,h5,h6,h7⟩
 ·exact .inl h4
 ·exact .inr ⟨b,off,h5,h6,fun i y hy=>h7 i (f y) (by rw[List.getElem?_map,hy];rfl)⟩
theorem RNodeOn.toRIn {F:Nat→Prop}:∀{n:Nat} {w:World} {cs:List Value} {t:Tr},RNodeOn F n w cs t→RIn n w cs t
 | 0,_,_,_,h=>h.elim
 | n+1,w,cs,.leaf p l,h=>by
  obtain⟨a,c,e,h1,_⟩:=h.at;refine⟨a,_,c,e,TabR.mono (TabR.unmap h1) (fun cs y hy=>?_)⟩;obtain⟨pa,pn,pc,ka,kn,kc,e,k1,_,k2,_⟩:=hy;obtain rfl:kn=0:=k2.1.symm;exact⟨pa,pn,pc,ka,kc,e,k1,unit_any k2⟩
 | n+1,w,cs,.node p l,h=>by
  obtain⟨a,c,e,h1,_⟩:=h.at;refine⟨a,_,c,e,TabR.mono (TabR.unmap h1) (fun cs y hy=>?_)⟩;obtain⟨pa,pn,pc,ka,kn,kc,e,k1,_,k2,_⟩:=hy;obtain rfl:kn=1:=k2.1.symm;obtain rfl:pn=0:=k1.1.symm;exact⟨pa,pc,ka,kc,e,k1,TabR.mono k2 (fun _ _ h=>h.toRIn)⟩
theorem set_cells {l:List (List UInt8×Tr)} {k:Nat} (hk:k<l.length) (p:Int) (key:List UInt8) (T:Tr) :
 cellsR (.node 0 (l.set k (key,T)))=(cellsR (.node p l)).take k++[⟨key,⟨[],[]⟩,some T⟩]++(cellsR (.node p l)).drop (k+1):=by
 obtain⟨a,c,b,rfl,rfl⟩:=list_at hk;rw[List.set_append_right _ _ (Nat.le_refl _),Nat.sub_self,List.set_cons_zero];simp[cellsR,List.drop_append]
open Go.RowKit
theorem rsizes_node {n:Nat} {F:Nat→Prop} {w:World} {cs:List Value} {p:Int} {l:List (List UInt8×Tr)} (h:RNodeOn F (n+1) w cs (.node p l)) (hb:Bnd (n+1) (.node p l)) :
 Calls Tryz.prog 126 #[.agg cs.toArray] w (SizesPost w (sizesT (.node p l))):=by
 obtain⟨a,c,rfl,h1,_⟩:=h.at;obtain⟨g1,g2⟩:=hb;obtain⟨e1,e2,e3⟩:=h1.lens;obtain⟨kn,hkn'⟩:∃x,cntT (.node p l)=x:=⟨_,rfl⟩
 have hkl:l.length=kn:=hkn';rw[hkn'] at h1 e1 e2 ⊢;have hsl:(sizesT (.node p l)).length=kn:=by rw[sizes_len_node,hkl]
 have HS:Hid (∀(i:Nat) (x:List UInt8×Tr),l[i]? = some x→(sizesT (.node p l))[i]?.getD 0=4+(x.1.length:Int)∧x.1.length≤200):=Hd (fun i x hx=>by
  have:=(g2 x (List.mem_of_getElem? hx)).1;simp[sizesT,hx,this])
 have HV:=Hd h1;have HSL:=Hd hsl;have hkn:kn≤1000:=by omega
 obtain⟨i0,hi0,hz0,hz1,hz2⟩:=info_parts info_intT;show Calls _ _ #[.agg #[.int .i64 p,.bool false,.slice a kn c]] _ _;have hA:Below w.heap.size w (w.alloc (.cells #[.int .i64 p,.bool false,.slice a kn c] 27)):=(Below.refl _ _).alloc (Nat.le_refl _) _;have HBX:=Hd ((Boxes.nil w).alloc #[.int .i64 p,.bool false,.slice a kn c] 27 (b:=w.heap.size) rfl);generalize sizesT (.node p l)=S at *;clear h h1 g1 g2 e1 hkl hsl hkn';go_enter Tryz.func126,Tryz.ntmps126;go_wp2_with fail
 go_loopw [3,4] (fun s3 s4 wr=>∃i:Nat,i≤kn∧s4=.int .i64 i∧wr.ownsRow w.heap.size 3 1 s3 i ((S.take i).map (Value.int .i64))∧Below w.heap.size w wr∧Boxes wr [(w.heap.size,[.int .i64 p,.bool false,.slice a kn c])]∧s3.ownBlock≠some w.heap.size) (fun _ s _=>kn-(intOf s).toNat)
 case atStart=>exact⟨0,Nat.zero_le _,rfl,World.ownsRow_nil _ _ _ _,hA,HBX.out,by simp[Value.ownBlock]⟩
 case round=>
  have zm:=Mk.i 280789;exact qaa4dc3
theorem rsizes_leaf {n:Nat} {F:Nat→Prop} {w:World} {cs:List Value} {p:Int} {l:List (List UInt8×Tv)} (h:RNodeOn F (n+1) w cs (.leaf p l)) (hb:Bnd (n+1) (.leaf p l)) :
 Calls Tryz.prog 126 #[.agg cs.toArray] w (SizesPost w (sizesT (.leaf p l))):=by
 obtain⟨a,c,rfl,h1,_⟩:=h.at;obtain⟨g1,g2⟩:=hb;obtain⟨e1,e2,e3⟩:=h1.lens;obtain⟨kn,hkn'⟩:∃x,cntT (.leaf p l)=x:=⟨_,rfl⟩
 have hkl:l.length=kn:=hkn';rw[hkn'] at h1 e1 e2 ⊢;have hsl:(sizesT (.leaf p l)).length=kn:=by rw[sizes_len_leaf,hkl]
 have HS:Hid (∀(i:Nat) (x:List UInt8×Tv),l[i]? = some x→(sizesT (.leaf p l))[i]?.getD 0=3+(vSz x.2:Int)+(x.1.length:Int)∧x.1.length≤200∧x.2.data.length≤1000):=Hd (fun i x hx=>by
  have:=g2 x (List.mem_of_getElem? hx);simp[sizesT,hx,this])
 have HV:=Hd h1;have HSL:=Hd hsl;have hkn:kn≤1000:=by omega
 obtain⟨i0,hi0,hz0,hz1,hz2⟩:=info_parts info_intT;show Calls _ _ #[.agg #[.int .i64 p,.bool true,.slice a kn c]] _ _;have hA:Below w.heap.size w (w.alloc (.cells #[.int .i64 p,.bool true,.slice a kn c] 27)):=(Below.refl _ _).alloc (Nat.le_refl _) _;have HBX:=Hd ((Boxes.nil w).alloc #[.int .i64 p,.bool true,.slice a kn c] 27 (b:=w.heap.size) rfl);generalize sizesT (.leaf p l)=S at *;clear h h1 g1 g2 e1 hkl hsl hkn';go_enter Tryz.func126,Tryz.ntmps126;go_wp2_with fail
 go_loopw [3,4] (fun s3 s4 wr=>∃i:Nat,i≤kn∧s4=.int .i64 i∧wr.ownsRow w.heap.size 3 1 s3 i ((S.take i).map (Value.int .i64))∧Below w.heap.size w wr∧Boxes wr [(w.heap.size,[.int .i64 p,.bool true,.slice a kn c])]∧s3.ownBlock≠some w.heap.size) (fun _ s _=>kn-(intOf s).toNat)
 case atStart=>exact⟨0,Nat.zero_le _,rfl,World.ownsRow_nil _ _ _ _,hA,HBX.out,by simp[Value.ownBlock]⟩
 case round=>
  have zm:=Mk.i 646883;exact qaa4dc3
theorem rsizes_any {n:Nat} {F:Nat→Prop} {w:World} {cs:List Value} {t:Tr} (h:RNodeOn F n w cs t) (hb:Bnd n t):Calls Tryz.prog 126 #[.agg cs.toArray] w (SizesPost w (sizesT t)):=by
 cases n with
 | zero=>exact h.elim
 | succ n=>
  cases t with
  | leaf p l=>exact rsizes_leaf h hb
  | node p l=>exact rsizes_node h hb
open Go.RowKit
theorem refAt_any (a:Option Addr) (len cap:Nat) (l:List Int) (w:World) (hr:Row .i64 w a len cap l) (hs:Small l) :
 Calls Tryz.prog 125 #[.slice a len cap] w fun e w'=>e=.returned (.int .i64 (atF l))∧w=w':=by
 have hbd:=hs.bd;have hll:=Hd hr.1;have hl1:=hs.1;have hlc:=hr.2.1;have hm:=hr.2.2.1;unfold maxLen at hm;have hlen:l.length≤len∧len≤l.length:=by rw[hr.1];omega
 by_cases hle:sumI l≤122
 ·have hat:Hid (atF l=0):=Hd (by simp[atF,hle])
  exact q3c7e12
 ·by_cases hl2:len<2
  ·have hat:Hid (atF l=0):=Hd (by
    have e:l.length-1=0:=by omega
    simp[atF,hle,e,bestTo_zero])
   exact q3c7e12
  ·have hat:Hid (atF l=(bestTo l (len-1)).2):=Hd (by rw[←hr.1];simp[atF,hle])
   go_enter Tryz.func125,Tryz.ntmps125
   go_wp2_with (go_at_call 150;refine(refSum_any _ _ _ _ _ hr hs).mono ?_;rintro e w' ⟨rfl,rfl⟩)
   go_loop [3,4] (fun at' kk=>∃k m:Nat,2≤k∧k≤len∧kk=.int .i64 k∧at'=.int .i64 m∧1≤m∧m<k∧bestTo l (k-1)=(worse l m,(m:Int))) (fun _ k=>len-(intOf k).toNat)
   case atStart=>
    obtain⟨m,h1,h2,e⟩:=bestTo_pos hs 0;obtain rfl:m=1:=by omega
    exact⟨2,1,by omega,by omega,rfl,rfl,h1,by omega,e⟩
   case round=>
    obtain⟨k,m,hk2,hk,rfl,rfl,hm1,hm2,hb⟩:=hrel;have hst:bestTo l (k+1-1)=better (worse l m,(m:Int)) ((k:Int),worse l k):=by
     obtain⟨n,rfl⟩:∃n,k=n+1:=⟨k-1,by omega⟩
     have:=bestTo_succ l n;simp only[Nat.add_sub_cancel] at hb ⊢;rw[this,hb];simp
    have HB:=Hd hb;have HS:=Hd hst;clear hb hst
    by_cases hlt:k<len
    ·by_cases hw:worse l k<worse l m
     ·go_wp2_with fail
      refine(worse_any _ _ _ k _ _ hr hs (by omega)).mono ?_;rintro e w' ⟨rfl,rfl⟩;go_wp2_with fail;refine(worse_any _ _ _ m _ _ hr hs (by omega)).mono ?_;rintro e w' ⟨rfl,rfl⟩
      go_wp2
      go_round
      case rel=>exact⟨k+1,k,by omega,by omega,by go_num,rfl,by omega,by omega,by rw[HS.out,better,if_pos hw]⟩
      case measure=>simp[intOf];omega
     ·go_wp2_with fail
      refine(worse_any _ _ _ k _ _ hr hs (by omega)).mono ?_;rintro e w' ⟨rfl,rfl⟩;go_wp2_with fail;refine(worse_any _ _ _ m _ _ hr hs (by omega)).mono ?_;rintro e w' ⟨rfl,rfl⟩
      go_wp2
      go_round
      case rel=>exact⟨k+1,m,by omega,by omega,by go_num,rfl,by omega,by omega,by rw[HS.out,better,if_neg (by simpa using hw)]⟩
      case measure=>simp[intOf];omega
    ·obtain rfl:k=len:=by omega
     go_wp2
     go_ret;exact⟨ret_int (by rw[hat.out,HB.out]),rfl⟩
open Go.RowKit
def PartedTo (F:Nat→Prop) (n:Nat) (w:World) (p:Int) (l:List (List UInt8×Tr)) (k:Nat) (e:Ending) (w':World):Prop:=
 ∃cs,e=.returned (.tuple #[.agg cs.toArray,.bool (splitT l k).isSome])∧RNodeOn (Fr F w) n w' cs (match splitT l k with|none=>.node p l|some m=>.node 0 m)∧Below w.heap.size w w'
theorem parted_end {F:Nat→Prop} {n m d:Nat} {w w4 w':World} {p:Int} {l mm:List (List UInt8×Tr)} {k r:Nat} {a:Option Addr} (hsp:splitT l k=some mm) (hr:w.heap.size≤r) (hF:∀b,F b→b<w.heap.size) (hr4:r<w4.heap.size)
 (h:RNodeOn (Fr F w4) (n+1) w' [.int .i64 0,.bool (Tr.node 0 mm).isLeaf,.slice a m d] (.node 0 mm)) (hb:Below w.heap.size w w') :
 PartedTo F (n+1) w p l k (.returned (.tuple #[.agg #[.int .i64 0,.bool false,.slice a m d],.bool true])) (((w'.setCell ⟨r,0,none⟩ (.int .i64 0)).setCell ⟨r,1,none⟩ (.bool false)).setCell ⟨r,2,none⟩ (.slice a m d)):=by
 refine⟨[.int .i64 0,.bool false,.slice a m d],by rw[hsp];rfl,?_,((hb.setCell (by simpa using hr) _).setCell (by simpa using hr) _).setCell (by simpa using hr) _⟩;rw[hsp];refine(h.put3 (r:=r) (fun hg=>?_) _ _ _).mono (fun b hb=>?_)
 ·rcases hg with hg|hg
  ·have:=hF _ hg;omega
  ·omega
 ·rcases hb with hb|hb
  ·exact .inl hb
  ·exact .inr (by omega)
theorem parted_any {F:Nat→Prop} {n:Nat} {w:World} {cs:List Value} {p:Int} {l:List (List UInt8×Tr)} (hF:∀b,F b→b<w.heap.size) (h:RNodeOn F (n+1) w cs (.node p l)) (hl9:l.length≤1000) {k:Nat} (hbd:Bnd n (kidAt l k)) (hk:k<l.length) :
 Calls Tryz.prog 165 #[.agg cs.toArray,.int .i64 (k:Int)] w (PartedTo F (n+1) w p l k):=by
 have H:=Hd h;obtain⟨a,c,rfl,h1,hfa⟩:=h.at;obtain⟨e1,e2,e3⟩:=h1.lens;obtain⟨m,hml⟩:∃m,cntT (.node p l)=m:=⟨_,rfl⟩
 have hlm:l.length=m:=hml;rw[hml] at h1 hfa e1 e2 ⊢;rw[hlm] at hk;have HFR:=Hd h1;obtain⟨b,off,y,pa,pn,pc,ka,kn,kc,rfl,hbb,hy,_,_,_,hkid,hfk,c0,c1,c2,c3⟩:=RNodeOn.cell h1 hk;rw[cellsR_node] at hy;obtain⟨x,hx1,hx2⟩:=Option.map_eq_some_iff.1 hy;subst hx2;obtain⟨xk,kid⟩:=x;have s1:=hkid.lens.1;obtain rfl:kn=1:=s1.symm;obtain⟨bk,ok,kd,kcs,rfl,hbk,hyk,_,hon,hck⟩:=TabR.at hkid (show 0<1 by omega);cases hyk;have hkey:keyAt l k=xk:=by unfold keyAt;rw[hx1];rfl
 have hkd:kidAt l k=kid:=by unfold kidAt;rw[hx1];rfl
 have hkb:Bnd n kid:=by rw[←hkd];exact hbd
 cases n with
 | zero=>exact hon.elim
 | succ n=>
 obtain⟨ak,ck,rfl,hkr,hfr⟩:=hon.at;have hm9:m≤1000:=by rw[←hlm];exact hl9
 have hsm:Small (sizesT kid):=hkb.small;have hkm9:cntT kid≤1000:=by
  cases kid with
  | leaf q r=>exact hkb.1
  | node q r=>exact hkb.1
 obtain⟨km,hkm⟩:∃x,cntT kid=x:=⟨_,rfl⟩
 obtain⟨kp,hkp⟩:∃x,kid.page=x:=⟨_,rfl⟩
 obtain⟨kl,hkl⟩:∃x,kid.isLeaf=x:=⟨_,rfl⟩
 rw[hkm,hkp,hkl] at hon hck;rw[hkm] at hkr hfr hkm9;show Calls _ _ #[.agg #[.int .i64 p,.bool false,.slice (some ⟨b,off,none⟩) m c],.int .i64 (k:Int)] _ _;have zm:=Mk.i 603792;exact q873d2b
open Go.RowKit
theorem PartedTo.split {F:Nat→Prop} {n:Nat} {w w':World} {p:Int} {l:List (List UInt8×Tr)} {k:Nat} {e:Ending} (h:PartedTo F (n+1) w p l k e w') :
 ∃a1 c1,e=.returned (.tuple #[.agg #[.int .i64 (splitR p l k).page,.bool (splitR p l k).isLeaf,.slice a1 (cntT (splitR p l k)) c1],.bool (splitT l k).isSome])∧RNodeOn (Fr F w) (n+1) w' [.int .i64 (splitR p l k).page,.bool (splitR p l k).isLeaf,.slice a1 (cntT (splitR p l k)) c1] (splitR p l k)∧Below w.heap.size w w':=by
 obtain⟨cs,rfl,h1,h2⟩:=h;have e:(match splitT l k with|none=>Tr.node p l|some m=>Tr.node 0 m)=splitR p l k:=by
  unfold splitR;cases splitT l k<;>rfl
 have h1:RNodeOn (Fr F w) (n+1) w' cs (splitR p l k):=e ▸ h1;obtain⟨a,c,rfl,_⟩:=h1.at;exact⟨a,c,rfl,h1,h2⟩
theorem rmend_any {F:Nat→Prop} {n:Nat} {w:World} {cs:List Value} {p:Int} {l:List (List UInt8×Tr)} (hF:∀b,F b→b<w.heap.size) (h:RNodeOn F (n+2) w cs (.node p l)) (ho:MendOk n l) {k:Nat} (hk:k<l.length) :
 Calls Tryz.prog 127 #[.agg cs.toArray,.int .i64 (k:Int)] w (RNodeTo F (n+2) w (mendT p l k)):=by
 have H:=Hd h;obtain⟨a,c,rfl,h1,hfa⟩:=h.at;obtain⟨e1,e2,e3⟩:=h1.lens;obtain⟨m,hml⟩:∃m,cntT (.node p l)=m:=⟨_,rfl⟩
 have hlm:l.length=m:=hml;rw[hml] at h1 hfa e1 e2 ⊢;obtain⟨b,off,bk,ok,kcs,pa,pn,pc,kc,rfl,hbb,hbk,hon,d0,d1,d2,d3,hck,hkc1,hkc2⟩:=RNodeOn.kid h1 (show k<m by omega);have hm9:m≤1000:=by rw[←hlm];exact ho.len
 obtain⟨kid,hkd⟩:∃x,kidAt l k=x:=⟨_,rfl⟩
 obtain⟨kidm,hkm,hkx⟩:=kid_mem (l:=l) (k:=k) (by omega);have hkb:Bnd (n+1) kid:=by rw[←hkd,←hkx];exact ho.bnd _ hkm
 rw[hkd] at hon;obtain⟨ak,ck,rfl,hkr,hfr⟩:=hon.at;have hsm:Small (sizesT kid):=hkb.small;obtain⟨km,hkm⟩:∃x,cntT kid=x:=⟨_,rfl⟩
 obtain⟨kp,hkp⟩:∃x,kid.page=x:=⟨_,rfl⟩
 obtain⟨kl,hkl⟩:∃x,kid.isLeaf=x:=⟨_,rfl⟩
 rw[hkm,hkp,hkl] at hon hck;show Calls _ _ #[.agg #[.int .i64 p,.bool false,.slice (some ⟨b,off,none⟩) m c],.int .i64 (k:Int)] _ _;have zm:=Mk.i 890736;exact q873d2b
open Go.RowKit
theorem rtop_any:∀{N:Nat} {F:Nat→Prop} {w:World} {cs:List Value} {t:Tr},(∀b,F b→b<w.heap.size)→RNodeOn F N w cs t→TopOk N t→Calls Tryz.prog 87 #[.agg cs.toArray] w (RNodeTo F (N+1) w (topT N t))
 | 0,_,_,_,_,_,h,_=>h.elim
 | N+1,F,w,cs,t,hF,h,ho=>by
  have IH:=fun {F:Nat→Prop} {w:World} {cs:List Value} {t:Tr} (hF:∀b,F b→b<w.heap.size) (h:RNodeOn F N w cs t) (ho:TopOk N t)=>rtop_any hF h ho
  obtain⟨o1,o2,o3⟩:=ho;have H:=Hd h;obtain⟨a,c,rfl,h1,_⟩:=h.at;obtain⟨_,e2,e3⟩:=h1.lens;obtain⟨lf,hlf⟩:∃x,t.isLeaf=x:=⟨_,rfl⟩
  obtain⟨p,hp⟩:∃x,t.page=x:=⟨_,rfl⟩
  obtain⟨m,hm⟩:∃x,cntT t=x:=⟨_,rfl⟩
  have hm9:m≤1000:=by rw[←hm];cases t<;>exact o1.1
  rw[hlf,hp,hm] at h H;rw[hm] at h1 e2;rw[hlf,hp,hm];have zm:=Mk.i 863665;exact qa4f6b9
open Go.RowKit
theorem rput_node {N:Nat} {key d:List UInt8} (IH:∀{F:Nat→Prop} {w:World} {cs:List Value} {t:Tr},(∀b,F b→b<w.heap.size)→RNodeOn F N w cs t→PutOk N t key ⟨d,[]⟩→Calls Tryz.prog 88 #[.agg cs.toArray,.string (strOf key),.string (strOf d)] w (RNodeTo F N w (putT N t key ⟨d,[]⟩)))
 {F:Nat→Prop} {w:World} {cs:List Value} {p:Int} {l:List (List UInt8×Tr)} (hF:∀b,F b→b<w.heap.size) (h:RNodeOn F (N+1) w cs (.node p l)) (ho:PutOk (N+1) (.node p l) key ⟨d,[]⟩) :
 Calls Tryz.prog 88 #[.agg cs.toArray,.string (strOf key),.string (strOf d)] w (RNodeTo F (N+1) w (putT (N+1) (.node p l) key ⟨d,[]⟩)):=by
 obtain⟨o1,o2,o3,M,rfl,o4⟩:=ho;have H:=Hd h;obtain⟨a,c,rfl,h1,hfa⟩:=h.at;obtain⟨e1,e2,e3⟩:=h1.lens;obtain⟨m,hml⟩:∃m,cntT (.node p l)=m:=⟨_,rfl⟩
 have hlm:l.length=m:=hml;rw[hml] at h1 hfa e1 e2 ⊢;obtain⟨k,hk⟩:∃k,wayF (keysOf l) key=k:=⟨_,rfl⟩
 have hkm:k<m:=by rw[←hk,←hlm,←show(keysOf l).length=l.length by simp[keysOf]];exact wayF_lt key (by simpa[keysOf] using o1)
 have hput:putT (M+1+1) (.node p l) key ⟨d,[]⟩=mendT 0 (l.set k (keyAt l k,putT (M+1) (kidAt l k) key ⟨d,[]⟩)) k:=by rw[←hk];rfl
 rw[hk] at o3 o4;rw[hput];obtain⟨b,off,bk,ok,kcs,pa,pn,pc,kc,rfl,hbb,hbk,hon,d0,d1,d2,d3,hck,hkc1,hkc2⟩:=RNodeOn.kid h1 hkm;have hm9:m≤1000:=by rw[←hlm];exact o2
 obtain⟨kid,hkd⟩:∃x,kidAt l k=x:=⟨_,rfl⟩
 obtain⟨kj,hkj⟩:∃x,keyAt l k=x:=⟨_,rfl⟩
 rw[hkd] at hon o3 o4 ⊢;rw[hkj] at d0 o4 ⊢;obtain⟨T,hT⟩:∃x,putT (M+1) kid key ⟨d,[]⟩=x:=⟨_,rfl⟩
 have IH:=fun {F:Nat→Prop} {w:World} {cs:List Value} (h1:∀b,F b→b<w.heap.size) (h2:RNodeOn F (M+1) w cs kid)=>IH h1 h2 o3
 rw[hT] at IH o4 ⊢;obtain⟨L2,hL2⟩:∃x,l.set k (kj,T)=x:=⟨_,rfl⟩
 have q2:=set_cells (show k<l.length by omega) p kj T;have q3:L2.length=m:=by rw[←hL2,List.length_set];exact hlm
 rw[hL2] at o4 q2 ⊢;obtain⟨ak,ck,rfl,_,_⟩:=hon.at;obtain⟨km,hkm'⟩:∃x,cntT kid=x:=⟨_,rfl⟩
 obtain⟨kp,hkp⟩:∃x,kid.page=x:=⟨_,rfl⟩
 obtain⟨kl,hkl⟩:∃x,kid.isLeaf=x:=⟨_,rfl⟩
 rw[hkm',hkp,hkl] at hon hck;show Calls _ _ #[.agg #[.int .i64 p,.bool false,.slice (some ⟨b,off,none⟩) m c],.string (strOf key),.string (strOf d)] _ _;have zm:=Mk.i 755974;exact q873d2b
open Go.RowKit
theorem putL_cells (key:List UInt8) (v:Tv) (p:Int) (l:List (List UInt8×Tv)) :
 cellsR (.leaf 0 (putL key v l))=(cellsR (.leaf p l)).take (posK key (keysOf l))++[⟨key,v,none⟩]++(cellsR (.leaf p l)).drop (posK key (keysOf l)+(if hasK key (keysOf l) then 1 else 0)):=by
 rw[putL_pos];simp[cellsR,List.map_take,List.map_drop]
theorem RcOn.fresh (F:Nat→Prop) (n:Nat) (w:World) (key d:List UInt8):RcOn F n w [.string (strOf key),.string (strOf d),.slice none 0 0,.slice none 0 0] ⟨key,⟨d,[]⟩,none⟩:=
 ⟨none,0,0,none,0,0,rfl,⟨rfl,Nat.le_refl _,by unfold maxLen;omega,fun _=>rfl,.inl rfl⟩,.inl rfl,TabR.nil _,.inl rfl⟩
theorem rput_leaf {n:Nat} {key d:List UInt8} {F:Nat→Prop} {w:World} {cs:List Value} {p:Int} {l:List (List UInt8×Tv)} (hF:∀b,F b→b<w.heap.size) (h:RNodeOn F (n+1) w cs (.leaf p l)) (hl9:l.length≤900) :
 Calls Tryz.prog 88 #[.agg cs.toArray,.string (strOf key),.string (strOf d)] w (RNodeTo F (n+1) w (.leaf 0 (putL key ⟨d,[]⟩ l))):=by
 have H:=Hd h;obtain⟨a,c,rfl,h1,hfa⟩:=h.at;obtain⟨e1,e2,e3⟩:=h1.lens;obtain⟨m,hml⟩:∃m,cntT (.leaf p l)=m:=⟨_,rfl⟩
 have hlm:l.length=m:=hml;rw[hml] at h1 hfa e1 e2 ⊢;have hm9:m≤900:=by rw[←hlm];exact hl9
 have hcells:=putL_cells key ⟨d,[]⟩ p l;have hPm:posK key (keysOf l)≤m:=by have:=posK_le key (keysOf l);rw[←hlm];simpa[keysOf] using this
 have hlt:∀i,i<posK key (keysOf l)→(keysOf l)[i]?.getD []<key:=fun i hi=>posK_lt hi
 have hat:posK key (keysOf l)<m→¬(keysOf l)[posK key (keysOf l)]?.getD []<key:=fun hi=>posK_at (by rw[←hlm] at hi;simpa[keysOf] using hi)
 have hhas:hasK key (keysOf l)=((keysOf l)[posK key (keysOf l)]? == some key):=rfl;obtain⟨P,hP⟩:∃P,posK key (keysOf l)=P:=⟨_,rfl⟩
 rw[hP] at hcells hPm hlt hat hhas;obtain⟨hs,hhs⟩:∃x,hasK key (keysOf l)=x:=⟨_,rfl⟩
 rw[hhs] at hcells hhas;have hkey:∀(i:Nat) (y:Rc),(cellsR (.leaf p l))[i]? = some y→(keysOf l)[i]? = some y.key:=fun i y hy=>by
  rw[cellsR_leaf] at hy;obtain⟨x,hx1,hx2⟩:=Option.map_eq_some_iff.1 hy;subst hx2;simp[keysOf,hx1]
 obtain⟨R,hR⟩:∃x,putL key ⟨d,[]⟩ l=x:=⟨_,rfl⟩
 rw[hR] at hcells ⊢;show Calls _ _ #[.agg #[.int .i64 p,.bool true,.slice a m c],.string (strOf key),.string (strOf d)] _ _;obtain⟨W2,hW2⟩:∃x,(w.alloc (.cells #[.int .i64 p,.bool true,.slice a m c] 27)).alloc (.cells #[.int .i64 0,.bool false,.slice none 0 0] 27)=x:=⟨_,rfl⟩
 have hb2:Below w.heap.size w W2:=by rw[←hW2];exact Below.al (Below.al (Below.refl _ _))
 have hx2:Boxes W2 [(w.heap.size+1,[.int .i64 0,.bool false,.slice none 0 0]),(w.heap.size,[.int .i64 p,.bool true,.slice a m c])]:=by
  rw[←hW2];exact((Boxes.nil w).alloc #[.int .i64 p,.bool true,.slice a m c] 27 (b:=w.heap.size) rfl).alloc #[.int .i64 0,.bool false,.slice none 0 0] 27 (b:=w.heap.size+1) (by simp)
 have hsz2:W2.heap.size=w.heap.size+2:=by rw[←hW2];simp
 have n1:=hx2.cell 1 1 rfl rfl;have HX2:=Hd hx2;have HB2:=Hd hb2;have HR:=Hd h1;have HC:=Hd hcells;have HLT:=Hd hlt;have HAT:=Hd hat;have HHAS:=Hd hhas;have HKEY:=Hd hkey;have HLM:=Hd hlm;have hcl:(cellsR (.leaf p l)).length=m:=by rw[cellsR_len];exact hml
 have HCL:=Hd hcl;clear hx2 hb2 h1 h hfa hml e1 hcells hlt hat hhas hkey hlm hR hP hhs hl9 hcl;go_enter Tryz.func88,Tryz.ntmps88
 go_upto_block 0 with(fail)
 obtain⟨W3,hW3⟩:∃x,x=W2.alloc (.cells #[.string (strOf key),.string (strOf d),.slice none 0 0,.slice none 0 0] 145):=⟨_,rfl⟩
 rw[←hW3];have hb3:Below w.heap.size w W3:=by rw[hW3];exact Below.al HB2.out
 have hx3:Boxes W3 [(w.heap.size+2,[.string (strOf key),.string (strOf d),.slice none 0 0,.slice none 0 0]),(w.heap.size+1,[.int .i64 0,.bool false,.slice none 0 0]),(w.heap.size,[.int .i64 p,.bool true,.slice a m c])]:=by
  rw[hW3];exact HX2.out.alloc #[.string (strOf key),.string (strOf d),.slice none 0 0,.slice none 0 0] 145 (b:=w.heap.size+2) (by omega)
 have hs3:W3.heap.size=w.heap.size+3:=by rw[hW3];simp;omega
 have n2:=hx3.cell 2 2 rfl rfl;have HX3:=Hd hx3;have HB3:=Hd hb3;have HS3:=Hd hs3;have hF3:∀b,F b→b<W3.heap.size:=fun b hb=>by have:=hF b hb;omega
 have HF3:=Hd hF3;clear hx3 hb3 hW3 hW2 hs3 hF3 n1;go_wp2_with fail
 go_loop [10] (fun s=>∃i:Nat,i≤P∧s=.int .i64 i) (fun s=>P-(intOf s).toNat)
 case atStart=>exact⟨0,Nat.zero_le _,rfl⟩
 case round=>
  obtain⟨i,hi,rfl⟩:=hrel
  by_cases hiP:i<P
  ·obtain⟨b,off,y,_,_,_,_,_,_,rfl,hbb,hy,_,_,_,_,_,e0,_⟩:=RNodeOn.cell HR.out (show i<m by omega)
   have hk:y.key<key:=by
    have:=HLT.out i hiP;rw[HKEY.out i y hy] at this;exact this
   obtain⟨c1,c2,c3,c4⟩:=cmp_lt hk;have v0:=(HB3.out.cell (p:=⟨b,off+i*4,none⟩) hbb).trans e0;have him:(i:Int)<(m:Int):=by omega
   clear hk hy e0;go_wp2_with fail
   go_round
   case rel=>exact⟨i+1,by omega,by go_num⟩
   case measure=>simp[intOf];omega
  ·obtain rfl:i=P:=by omega
   by_cases hPm':i<m
   ·obtain⟨b,off,y,_,_,_,_,_,_,rfl,hbb,hy,_,_,_,_,_,e0,_⟩:=RNodeOn.cell HR.out (show i<m by omega)
    have v0:=(HB3.out.cell (p:=⟨b,off+i*4,none⟩) hbb).trans e0;have him:(i:Int)<(m:Int):=by omega
    have hna:¬y.key<key:=by
     have:=HAT.out hPm';rw[HKEY.out i y hy] at this;exact this
    have hha:=HHAS.out;rw[HKEY.out i y hy] at hha
    rcases ktri y.key key with hk|hk|hk
    ·exact absurd hk hna
    ·obtain rfl:hs=true:=by rw[hha,hk];simp
     obtain⟨c1,c2⟩:=cmp_eq key;rw[hk] at v0;have hcr:=HC.out;rw[if_pos rfl] at hcr;have hcnt:cntT (.leaf 0 R)=m:=by
      have:=congrArg List.length hcr;rw[cellsR_len] at this;simp only[List.length_append,List.length_take,List.length_drop,List.length_singleton,HCL.out] at this;omega
     obtain⟨W4,hW4⟩:∃x,W3.alloc (.cells #[.string (strOf key),.string (strOf d),.slice none 0 0,.slice none 0 0] 145)=x:=⟨_,rfl⟩
     have hb34:Below W3.heap.size W3 W4:=by rw[←hW4];exact Below.al (Below.refl _ _)
     have hz:BoxAt W4 W3.heap.size #[.string (strOf key),.string (strOf d),.slice none 0 0,.slice none 0 0]:=by rw[←hW4];exact BoxAt.here
     have hb4:=below_via HB3.out hb34;have CW3:=with_to (G:=Fr F W3) (n:=n) (wc:=W4) (W:=W4) (t:=.leaf 0 R) rfl hcnt hcr (Below.refl _ _) (fun b hb=>.inr (by have:=hb34.size;omega)) (TabR.mono (TabR.below (Nat.le_refl _) hb4 HR.out) (fun _ _ hy=>RcOn.mono (fun b hf=>Fr.old b hf) (RcOn.below hy hb4))) (one_cell hz (RcOn.fresh _ _ _ key d)) hPm' (by omega) (by omega);have hx4:=HX3.out.step hb34;have m0:=HX3.out.cell 0 0 rfl rfl;have m1:=HX3.out.cell 0 1 rfl rfl;have m2:=HX3.out.cell 0 2 rfl rfl;have m3:=HX3.out.cell 0 3 rfl rfl;have HX4:=Hd hx4;have HB4:=Hd hb4;clear hx4 hb4 hz hb34 hcr hcnt hna hha hk e0 hy;subst hW4;go_wp2_with fail;refine CW3.mono ?_;rintro e w5 ⟨a5,d5,rfl,n5',hb5⟩;have n5:RNodeOn (Fr F W3) (n+1) w5 [.int .i64 0,.bool true,.slice a5 m d5] (.leaf 0 R):=n5';have hx5:=HX4.out.step hb5;have z0:=hx5.cell 1 0 rfl rfl;have z1:=hx5.cell 1 1 rfl rfl;have z2:=hx5.cell 1 2 rfl rfl;have y0:=hx5.frozen 1 0 rfl;have y1:=hx5.frozen 1 1 rfl;have y2:=hx5.frozen 1 2 rfl;obtain⟨t0,t1,t2,HE⟩:=rend (F:=F) (w:=w) (hx5.sub (m:=[(w.heap.size+1,[.int .i64 0,.bool false,.slice none 0 0])]) (by simp)) (by omega) (fun hg=>by
      have:=HS3.out
      rcases hg with hg|hg
      ·have:=hF _ hg;omega
      ·omega) (fun b hb=>by
      have:=HS3.out
      rcases hb with hb|hb
      ·exact .inl hb
      ·exact .inr (by omega)) n5 (below_via HB4.out hb5)
     clear n5 hb5 CW3 hx5 n5';go_wp2_with fail;refine bodyPost_ret (v:=.agg #[.int .i64 0,.bool true,.slice a5 (m) d5]) (by simp only[results,Tryz.results88];simp[go_sem,t0,t1,t2]) rfl HE.out
    ·obtain rfl:hs=false:=by rw[hha];simp;intro e;rw[e] at hk;exact klt_irrefl _ hk
     obtain⟨c1,c2,c3,c4⟩:=cmp_lt hk;clear hna hha hk e0 hy;have zm:=Mk.i 599804;exact q358edb
   ·obtain rfl:hs=false:=by
     rw[HHAS.out,List.getElem?_eq_none (by have:=HLM.out;simp[keysOf];omega)]
     rfl
    have him:decide ((i:Int)<(m:Int))=false:=by simp;omega
    have zm:=Mk.i 640024;exact q358edb
open Go.RowKit
theorem RNodeOn.less {F:Nat→Prop}:∀{m n:Nat} {lo hi:List UInt8} {w:World} {cs:List Value} {t:Tr},RNodeOn F n w cs t→Shape m lo hi t→RNodeOn F m w cs t
 | 0,_,_,_,_,_,_,_,h=>h.elim
 | _,0,_,_,_,_,_,h,_=>h.elim
 | m+1,n+1,lo,hi,w,cs,.leaf p l,h,_=>by
  obtain⟨a,c,e,h1,f1⟩:=h.at;refine⟨a,c,e,TabR.agree h1 (Fa.mono f1 (fun _ h=>h)) (AgreeF.refl w) (fun cs y hy h=>?_),f1⟩;obtain⟨pa,pn,pc,ka,kn,kc,e,k1,f1,k2,f2⟩:=h;obtain⟨x,_,rfl⟩:=List.mem_map.1 hy;exact⟨pa,pn,pc,ka,kn,kc,e,k1,f1,TabR.agree k2 (Fa.mono f2 (fun _ h=>h)) (AgreeF.refl w) (fun cs y hy h=>by cases hy),f2⟩
 | m+1,n+1,lo,hi,w,cs,.node p l,h,hs=>by
  obtain⟨a,c,e,h1,f1⟩:=h.at;have hall:=node_kids hs;refine⟨a,c,e,TabR.agree h1 (Fa.mono f1 (fun _ h=>h)) (AgreeF.refl w) (fun cs y hy h=>?_),f1⟩;obtain⟨pa,pn,pc,ka,kn,kc,e,k1,f1,k2,f2⟩:=h;obtain⟨x,hx,rfl⟩:=List.mem_map.1 hy;obtain⟨_,lo',hi',g,_⟩:=hall x hx;exact⟨pa,pn,pc,ka,kn,kc,e,k1,f1,TabR.agree k2 (Fa.mono f2 (fun _ h=>h)) (AgreeF.refl w) (fun cs y hy h=>by
   have:y=x.2:=by simpa using hy
   subst this;exact RNodeOn.less h g),f2⟩
theorem rput_any:∀{N:Nat} {F:Nat→Prop} {w:World} {cs:List Value} {t:Tr} (key d:List UInt8),(∀b,F b→b<w.heap.size)→RNodeOn F N w cs t→PutOk N t key ⟨d,[]⟩ →
 Calls Tryz.prog 88 #[.agg cs.toArray,.string (strOf key),.string (strOf d)] w (RNodeTo F N w (putT N t key ⟨d,[]⟩))
 | 0,_,_,_,_,_,_,_,h,_=>h.elim
 | _+1,_,_,_,.leaf _p _l,_key,_d,hF,h,ho=>rput_leaf hF h ho.1
 | _N+1,_,_,_,.node _p _l,key,d,hF,h,ho=>rput_node (fun h1 h2 h3=>rput_any key d h1 h2 h3) hF h ho
theorem rPut_any {N:Nat} {F:Nat→Prop} {w:World} {cs:List Value} {t:Tr} (key d:List UInt8) (hF:∀b,F b→b<w.heap.size) (h:RNodeOn F N w cs t) (ho:PutOk N t key ⟨d,[]⟩) (ht:TopOk N (putT N t key ⟨d,[]⟩)) :
 Calls Tryz.prog 42 #[.agg cs.toArray,.string (strOf key),.string (strOf d)] w (RNodeTo F (N+1) w (putW N t key ⟨d,[]⟩)):=by
 cases N with
 | zero=>exact h.elim
 | succ N=>
 obtain⟨a,c,rfl,_,_⟩:=h.at;obtain⟨lf,hlf⟩:∃x,t.isLeaf=x:=⟨_,rfl⟩
 obtain⟨p,hp⟩:∃x,t.page=x:=⟨_,rfl⟩
 obtain⟨m,hm⟩:∃x,cntT t=x:=⟨_,rfl⟩
 rw[hlf,hp,hm] at h ⊢;have zm:=Mk.i 459272;exact qa4f6b9
theorem rPut_whole {n:Nat} {F:Nat→Prop} {w:World} {cs:List Value} {t:Tr} (hF:∀b,F b→b<w.heap.size) (h:RNodeOn F n w cs t) (hw:Whole n t) (key d:List UInt8) (hk:keyOk key) (hd:d.length≤400) :
 Calls Tryz.prog 42 #[.agg cs.toArray,.string (strOf key),.string (strOf d)] w (RNodeTo F (n+1) w (putW n t key ⟨d,[]⟩)):=by
 have hv:valOk ⟨d,[]⟩:=⟨hd,fun h=>absurd rfl h⟩
 obtain⟨h1,h2⟩:=hw.put hk hv;exact rPut_any key d hF h h1 h2
theorem rempty_any (w:World) (F:Nat→Prop):Calls Tryz.prog 41 #[] w (RNodeTo F 1 w (.leaf 0 [])):=by
 go_enter Tryz.func41,Tryz.ntmps41;go_wp2_with fail;refine bodyPost_ret (v:=.agg #[.int .i64 0,.bool true,.slice none 0 0]) (by simp[results,Tryz.results41,go_sem]) rfl ⟨[.int .i64 0,.bool true,.slice none 0 0],rfl,?_,?_⟩
 ·exact RNodeOn.mk (t:=.leaf 0 []) (TabR.nil _) (Fa.zero _ _)
 ·exact Below.al (Below.refl _ _)
open Go.RowKit
open Go.RowKit
def RBox (B b:Nat) (wr:World) (N:Nat) (t:Tr):Prop:=
 ∃p l a m d,Boxes wr [(b,[.int .i64 p,.bool l,.slice a m d])]∧RNodeOn (fun x=>B≤x) N wr [.int .i64 p,.bool l,.slice a m d] t
def RStay (B b:Nat) (w wr:World) (M:Nat) (T:Tr) (wx:World):Prop:=RBox B b wx M T∧AgreeF (fun x=>x≠b) wr wx∧Below w.heap.size w wx
theorem RStay.mk {B b:Nat} {w wr w9:World} {M:Nat} {T:Tr} {x0 x1 x2:Value} {p:Int} {l:Bool} {a:Option Addr} {m d:Nat} (hx:Boxes w9 [(b,[x0,x1,x2])]) (h:RNodeOn (fun x=>B≤x) M w9 [.int .i64 p,.bool l,.slice a m d] T) (hb:b<B) (hA:AgreeF (fun x=>x≠b) wr w9) (hB:Below w.heap.size w w9) (hle:w.heap.size≤b) :
 RStay B b w wr M T (((w9.setCell ⟨b,0,none⟩ (.int .i64 p)).setCell ⟨b,1,none⟩ (.bool l)).setCell ⟨b,2,none⟩ (.slice a m d)):=
 ⟨⟨p,l,a,m,d,((hx.put 0 (.int .i64 p) (by simp)).put 1 (.bool l) (by simp)).put 2 (.slice a m d) (by simp),h.put3 (by omega) _ _ _⟩,((hA.st).st).st,((hB.setCell (by simpa using hle) _).setCell (by simpa using hle) _).setCell (by simpa using hle) _⟩
def RGo (G:Nat→Prop) (n:Nat) (w:World) (t:Tr) (e:Ending) (w':World):Prop:=∃p l a m d,e=.returned (.agg #[.int .i64 p,.bool l,.slice a m d])∧RNodeOn G n w' [.int .i64 p,.bool l,.slice a m d] t∧Below w.heap.size w w'
theorem RNodeTo.go {F G:Nat→Prop} {n M:Nat} {W w':World} {T:Tr} {e:Ending} {lo hi:List UInt8} (h:RNodeTo F n W T e w') (hG:∀b,Fr F W b→G b) (hs:Shape M lo hi T):RGo G M W T e w':=by
 obtain⟨p,l,a,m,d,e,h1,h2⟩:=h.split;exact⟨p,l,a,m,d,e,(h1.mono hG).less hs,h2⟩
theorem rempty_on {F G:Nat→Prop} {w:World} {cs:List Value} (h:RNodeOn G 1 w cs (.leaf 0 [])):∃a c,cs=[.int .i64 0,.bool true,.slice a 0 c]∧RNodeOn F 1 w cs (.leaf 0 []):=by
 obtain⟨a,c,rfl,h1,_⟩:=h.at;refine⟨a,c,rfl,RNodeOn.mk (t:=.leaf 0 []) ?_ (Fa.zero _ _)⟩;obtain⟨g1,g2,g3,g4,g5⟩:=h1;exact⟨g1,g2,g3,g4,.inl rfl⟩
open Go.RowKit
section
variable {P:Program}
theorem step_make_run {ops:Array Oper} {o:Oper} {a:Act} {w:World} {K:Act→World→Prop} {Q:Exit→Act→World→Prop} {E:Prop} (hgd:o.guard=none) (t:TypeId) (x y:Operand) (ho:o.op=.makeSlice t x y) {v u r:Value} {w':World} (hx:a.eval x=v) (hy:a.eval y=u)
 (hr:(Instr.makeSlice t v u).run P w=.ok r w') (h:K (a.put o.dst r) w'):if Region.wanted o (yielded ops a.tmps)=true then Oper.wp P o a w K Q else E:=by
 exact q9332b0
theorem step_convert_run {ops:Array Oper} {o:Oper} {a:Act} {w:World} {K:Act→World→Prop} {Q:Exit→Act→World→Prop} {E:Prop} (hgd:o.guard=none) (s t:TypeId) (x:Operand) (ho:o.op=.convert s t x) {v r:Value} {w':World} (hx:a.eval x=v)
 (hr:(convert s t v).run P w=.ok r w') (h:K (a.put o.dst r) w'):if Region.wanted o (yielded ops a.tmps)=true then Oper.wp P o a w K Q else E:=by
 exact q0da5fb
end
open Go.RowKit
def IsTx (cs:List Value) (s:List UInt8):Prop:=cs=[.string (strOf s)]
def Txs (w:World) (a:Option Addr) (len cap:Nat) (l:List (List UInt8)):Prop:=TabR 1 IsTx w a len cap l
theorem Txs.at {w:World} {a:Option Addr} {len cap:Nat} {l:List (List UInt8)} (h:Txs w a len cap l) {k:Nat} (hk:k<len) :
 ∃b off s,a=some ⟨b,off,none⟩∧b<w.heap.size∧l[k]? = some s∧w.cell? ⟨b,off+k,none⟩=some (.string (strOf s)):=by
 obtain⟨b,off,y,cs,e1,e2,e3,_,e5,e6⟩:=TabR.at h hk;have e5':cs=[.string (strOf y)]:=e5;subst e5';have:=e6 0 _ rfl;exact⟨b,off,y,e1,e2,e3,by simpa using this⟩
def strV (s:List UInt8):Value:=.string (strOf s)
theorem fm_sing:∀P:List (List UInt8),P.flatMap (fun y=>[strV y])=P.map strV
 | []=>rfl
 | y::l=>by rw[List.flatMap_cons,fm_sing l];rfl
theorem txs_own2 {w:World} {base:Nat} {v:Value} {ks:List (List UInt8)} (h:w.ownsRow base 9 1 v ks.length (ks.map strV)):∃a cap,v=.slice a ks.length cap∧Txs w a ks.length cap ks:=by
 obtain⟨a,cap,e,ht⟩:=TabR.of_own (fun s=>[strV s]) (fun _=>rfl) (R:=fun cs s=>cs=[strV s]) (fun _=>rfl) (l:=ks) (by rw[fm_sing];exact h);exact⟨a,cap,e,ht⟩
theorem info_str2:(Tryz.prog.info? 9).map (fun i=>(i.zero,i.size,i.bytes))=some (some (.string ByteArray.empty),1,16):=by kernel_rfl
theorem cntR_loose (x:Rg):(cntR x).loose=x.loose:=by unfold cntR;split<;>(try split)<;>rfl
open Go.RowKit
abbrev C4:={ l:List Value // l.length=4∧∀v∈l,v.oneCell'=true }
def lcells (y:Nat×P128):List Value:=[.int .i64 (y.1:Int),.string (strOf y.2.1)]
theorem lcells_length (y:Nat×P128):(lcells y).length=2:=rfl
def Ls (w:World) (a:Option Addr) (len cap:Nat) (l:List (Nat×P128)):Prop:=TabR 2 (fun cs y=>cs=lcells y) w a len cap l
def pagesL (x:Rg):List (List UInt8):=(List.range x.size).map fun p=>(x.pages p).1
theorem pagesL_length (x:Rg):(pagesL x).length=x.size:=by simp[pagesL]
def IsG (w:World) (g:List Value) (x:Rg):Prop:=∃pa pc la lc,g=[.slice pa x.size pc,.slice la x.loose.length lc,.int .i64 x.left,.bool x.down]∧Txs w pa x.size pc (pagesL x)∧Ls w la x.loose.length lc x.loose∧x.size≤1000∧(∀p∈x.loose,p.1<x.size) ∧ -1≤x.left∧x.left≤9223372036854775807
theorem IsG.below {B:Nat} {w w':World} {g:List Value} {x:Rg} (h:IsG w g x) (hB:w.heap.size≤B) (hb:Below B w w'):IsG w' g x:=by
 obtain⟨pa,pc,la,lc,h1,h2,h3,h4⟩:=h;exact⟨pa,pc,la,lc,h1,TabR.below hB hb h2,TabR.below hB hb h3,h4⟩
def Gs (w:World) (a:Option Addr) (len cap:Nat) (d:List Rg):Prop:=d.length=len∧∃gs:List C4,TabR 4 (fun cs (y:C4)=>cs=y.1) w a len cap gs∧∀(i:Nat) (g:C4) (x:Rg),gs[i]? = some g→d[i]? = some x→IsG w g.1 x
theorem Gs.below {B:Nat} {w w':World} {a:Option Addr} {len cap:Nat} {d:List Rg} (h:Gs w a len cap d) (hB:w.heap.size≤B) (hb:Below B w w'):Gs w' a len cap d:=by
 obtain⟨h1,gs,h2,h3⟩:=h;exact⟨h1,gs,TabR.below hB hb h2,fun i g x hg hx=>(h3 i g x hg hx).below hB hb⟩
theorem Gs.at {w:World} {a:Option Addr} {len cap:Nat} {d:List Rg} (h:Gs w a len cap d) {i:Nat} {x:Rg} (hx:d[i]? = some x) :
 ∃b off pa pc la lc,a=some ⟨b,off,none⟩∧b<w.heap.size∧w.cell? ⟨b,off+i*4,none⟩=some (.slice pa x.size pc)∧w.cell? ⟨b,off+i*4+1,none⟩=some (.slice la x.loose.length lc)∧w.cell? ⟨b,off+i*4+2,none⟩=some (.int .i64 x.left)∧w.cell? ⟨b,off+i*4+3,none⟩=some (.bool x.down) ∧
  Txs w pa x.size pc (pagesL x)∧Ls w la x.loose.length lc x.loose∧x.size≤1000∧(∀p∈x.loose,p.1<x.size) ∧ -1≤x.left∧x.left≤9223372036854775807:=by
 obtain⟨h1,gs,h2,h3⟩:=h;have hi:i<len:=by rw[←h1];exact(List.getElem?_eq_some_iff.1 hx).1
 obtain⟨b,off,y,cs,e1,e2,e3,_,e5,e6⟩:=TabR.at h2 hi;obtain⟨pa,pc,la,lc,g1,g2,g3,g4,g5,g6⟩:=h3 i y x e3 hx;have e7:cs=[.slice pa x.size pc,.slice la x.loose.length lc,.int .i64 x.left,.bool x.down]:=e5.trans g1;subst e7;exact⟨b,off,pa,pc,la,lc,e1,e2,by simpa using e6 0 _ rfl,e6 1 _ rfl,e6 2 _ rfl,e6 3 _ rfl,g2,g3,g4,g5,g6⟩
def Agree (K:Nat→Prop) (w W:World):Prop:=w.heap.size≤W.heap.size∧∀k o,K k→w.heap[k]? = some o→W.heap[k]? = some o
theorem Agree.refl (K:Nat→Prop) (w:World):Agree K w w:=⟨Nat.le_refl _,fun _ _ _ h=>h⟩
theorem Agree.trans {K:Nat→Prop} {w1 w2 w3:World} (h:Agree K w1 w2) (h2:Agree K w2 w3):Agree K w1 w3:=⟨Nat.le_trans h.1 h2.1,fun k o hk ho=>h2.2 k o hk (h.2 k o hk ho)⟩
theorem Agree.mono {K K2:Nat→Prop} {w W:World} (h:Agree K2 w W) (hK:∀k,K k→K2 k):Agree K w W:=⟨h.1,fun k o hk ho=>h.2 k o (hK k hk) ho⟩
theorem agree_below {K:Nat→Prop} {w w':World} (hb:Below w.heap.size w w'):Agree K w w':=
 ⟨hb.size,fun k o _ ho=>by rw[hb.block k (Array.getElem?_eq_some_iff.1 ho).1];exact ho⟩
def From (K:Nat→Prop) (B:Nat) (k:Nat):Prop:=K k∨B≤k
theorem Agree.step {K:Nat→Prop} {w w' W:World} (hb:Below w.heap.size w w') (h:Agree (From K w.heap.size) w' W):Agree K w W:=(agree_below hb).trans (h.mono fun _ hk=>.inl hk)
theorem TabR.agreeK {α:Type} {sz:Nat} {R:List Value→α→Prop} {w:World} {a:Option Addr} {len cap:Nat} {l:List α} (h:TabR sz R w a len cap l) {K:Nat→Prop} (hK:∀b off,a=some ⟨b,off,none⟩→K b):∀W,Agree K w W→TabR sz R W a len cap l:=by
 intro W hW;obtain⟨h1,h2,h3,hn,h4⟩:=h;refine⟨h1,h2,h3,hn,?_⟩
 rcases h4 with h4|⟨b,off,h5,h6,h7⟩
 ·exact .inl h4
 ·have hbk:W.heap[b]? = w.heap[b]? := by
   rw[Array.getElem?_eq_getElem h6];exact hW.2 b _ (hK b off h5) (Array.getElem?_eq_getElem h6)
  exact .inr ⟨b,off,h5,by have:=hW.1;omega,fun i y hy=>by
   obtain⟨cs,c1,c2,c3⟩:=h7 i y hy;exact⟨cs,c1,c2,fun j v hv=>(World.cell?_of_block hbk).trans (c3 j v hv)⟩⟩
def GsK (K:Nat→Prop) (w:World) (a:Option Addr) (len cap:Nat) (d:List Rg):Prop:=d.length=len∧∃gs:List C4,(∀W,Agree K w W→TabR 4 (fun cs (y:C4)=>cs=y.1) W a len cap gs)∧∀(i:Nat) (g:C4) (x:Rg),gs[i]? = some g→d[i]? = some x→∀W,Agree K w W→IsG W g.1 x
theorem GsK.gs {K:Nat→Prop} {w:World} {a:Option Addr} {len cap:Nat} {d:List Rg} (h:GsK K w a len cap d):Gs w a len cap d:=by
 obtain⟨h1,gs,h2,h3⟩:=h;exact⟨h1,gs,h2 w (Agree.refl _ _),fun i g x hg hx=>h3 i g x hg hx w (Agree.refl _ _)⟩
theorem GsK.agree {K:Nat→Prop} {w w':World} {a:Option Addr} {len cap:Nat} {d:List Rg} (h:GsK K w a len cap d) (hA:Agree K w w'):GsK K w' a len cap d:=by
 obtain⟨h1,gs,h2,h3⟩:=h;exact⟨h1,gs,fun W hW=>h2 W (hA.trans hW),fun i g x hg hx W hW=>h3 i g x hg hx W (hA.trans hW)⟩
theorem GsK.below {K:Nat→Prop} {w w':World} {a:Option Addr} {len cap:Nat} {d:List Rg} (h:GsK K w a len cap d) (hb:Below w.heap.size w w'):GsK K w' a len cap d:=h.agree (agree_below hb)
theorem GsK.mono {K K2:Nat→Prop} {w:World} {a:Option Addr} {len cap:Nat} {d:List Rg} (h:GsK K w a len cap d) (hK:∀k,K k→K2 k):GsK K2 w a len cap d:=by
 obtain⟨h1,gs,h2,h3⟩:=h;exact⟨h1,gs,fun W hW=>h2 W (hW.mono hK),fun i g x hg hx W hW=>h3 i g x hg hx W (hW.mono hK)⟩
theorem GsK.at {K:Nat→Prop} {w:World} {a:Option Addr} {len cap:Nat} {d:List Rg} (h:GsK K w a len cap d) {i:Nat} {x:Rg} (hx:d[i]? = some x) :
 ∃b off pa pc la lc,a=some ⟨b,off,none⟩∧b<w.heap.size∧w.cell? ⟨b,off+i*4,none⟩=some (.slice pa x.size pc)∧w.cell? ⟨b,off+i*4+1,none⟩=some (.slice la x.loose.length lc)∧w.cell? ⟨b,off+i*4+2,none⟩=some (.int .i64 x.left)∧w.cell? ⟨b,off+i*4+3,none⟩=some (.bool x.down) ∧
  (∀W,Agree K w W→Txs W pa x.size pc (pagesL x))∧(∀W,Agree K w W→Ls W la x.loose.length lc x.loose)∧x.size≤1000∧(∀p∈x.loose,p.1<x.size) ∧ -1≤x.left∧x.left≤9223372036854775807:=by
 obtain⟨h1,gs,h2,h3⟩:=h;have hi:i<len:=by rw[←h1];exact(List.getElem?_eq_some_iff.1 hx).1
 obtain⟨b,off,y,cs,e1,e2,e3,_,e5,e6⟩:=TabR.at (h2 w (Agree.refl _ _)) hi;obtain⟨pa,pc,la,lc,g1,g2,g3,g4,g5,g6⟩:=h3 i y x e3 hx w (Agree.refl _ _);have e7:cs=[.slice pa x.size pc,.slice la x.loose.length lc,.int .i64 x.left,.bool x.down]:=e5.trans g1;have hW:∀W,Agree K w W→Txs W pa x.size pc (pagesL x)∧Ls W la x.loose.length lc x.loose:=by
  intro W hW;obtain⟨pa',pc',la',lc',k1,k2,k3,_⟩:=h3 i y x e3 hx W hW;have:=g1.symm.trans k1;simp only[List.cons.injEq,Value.slice.injEq] at this;obtain⟨⟨rfl,_,rfl⟩,⟨rfl,_,rfl⟩,_⟩:=this;exact⟨k2,k3⟩
 subst e7;exact⟨b,off,pa,pc,la,lc,e1,e2,by simpa using e6 0 _ rfl,e6 1 _ rfl,e6 2 _ rfl,e6 3 _ rfl,fun W h=>(hW W h).1,fun W h=>(hW W h).2,g4,g5,g6⟩
def refE (d:List Rg) (r p:Int) (asked:Bool):Int:=if asked then pagedE d r p else upE d r
theorem rup_any {w:World} {a:Option Addr} {len cap:Nat} {d:List Rg} (h:Gs w a len cap d) (_hlen:len≤9223372036854775807) (r p:Int) (asked:Bool) :
 Calls Tryz.prog 47 #[.slice a len cap,.int .i64 r,.int .i64 p,.bool asked] w fun e w'=>e=.returned (.int .i64 (refE d r p asked))∧w=w':=by
 have hl:=h.1
 by_cases h0:r<0
 ·have q0:decide (r<0)=true:=by simpa using h0
  have HE:Hid (refE d r p asked=2):=Hd (by
   have hu:upE d r=2:=by unfold upE;rw[if_neg (by omega)]
   unfold refE pagedE;rw[hu];simp)
  clear h0 h hl;exact qf42a29
 ·obtain⟨i,rfl⟩:=Int.eq_ofNat_of_zero_le (show 0≤r by omega)
  have q0:decide ((i:Int)<0)=false:=by simp
  by_cases h1:i<len
  ·obtain⟨x,hx⟩:∃x,d[i]? = some x:=⟨_,List.getElem?_eq_getElem (by omega)⟩
   obtain⟨b,off,pa,pc,la,lc,rfl,hb,c0,c1,c2,c3,g2,g3,g4,g5,g6⟩:=h.at hx;have q1:decide (len≤i)=false:=by simp;omega
   have hu:upE d (i:Int)=if x.down then 3 else 0:=by
    unfold upE;rw[if_pos (by omega),Int.toNat_natCast,hx];rfl
   have hp:pagedE d (i:Int) p=if x.down then 3 else if 0≤p∧p<x.size then 0 else 2:=by
    unfold pagedE;rw[hu,atR_of hx];cases x.down<;>simp
   cases hd:x.down with
   | true=>
    rw[hd] at c3;have HE:Hid (refE d (i:Int) p asked=3):=Hd (by unfold refE;rw[hu,hp,hd];simp);exact qdf2305
   | false=>
    rw[hd] at c3;cases asked with
    | false=>
     have HE:Hid (refE d (i:Int) p false=0):=Hd (by unfold refE;rw[hu,hd];simp);exact qdf2305
    | true=>
     by_cases p0:p<0
     ·have q2:decide (p<0)=true:=by simpa using p0
      have HE:Hid (refE d (i:Int) p true=2):=Hd (by unfold refE;rw[hp,hd];simp;omega);exact qdf2305
     ·have q2:decide (p<0)=false:=by simpa using p0
      by_cases p1:p<x.size
      ·have q3:decide ((x.size:Int)≤p)=false:=by simpa using p1
       have HE:Hid (refE d (i:Int) p true=0):=Hd (by unfold refE;rw[hp,hd];simp;omega);exact qdf2305
      ·have q3:decide ((x.size:Int)≤p)=true:=by simp;omega
       have HE:Hid (refE d (i:Int) p true=2):=Hd (by unfold refE;rw[hp,hd];simp;omega);exact qdf2305
  ·have q1:decide (len≤i)=true:=by simp;omega
   have HE:Hid (refE d (i:Int) p asked=2):=Hd (by
    have hu:upE d (i:Int)=2:=by unfold upE;rw[if_neg (by omega)]
    unfold refE pagedE;rw[hu];simp)
   clear h0 h hl;exact qf42a29
open Go.RowKit
structure RLd (w:World) (sb:Nat) (a:Option Addr) (len cap:Nat) (d:List Rg) (r:Int) (v:Value) (seen:List Int) (E:Int):Prop where
 box:Boxes w [(sb,[.slice a len cap,.int .i64 r,v,.int .i64 E])]
 own:w.ownsRow (sb+1) 3 1 v seen.length (seen.map (Value.int .i64))
 gs:∃K,GsK K w a len cap d∧∀k,K k→k<sb
 l9:len≤1000
section
variable {w w':World} {sb:Nat} {a:Option Addr} {len cap:Nat} {d:List Rg} {r:Int} {v v':Value} {seen s2:List Int} {E E2:Int}
def RS (sb:Nat) (v:Value):List Nat:=sb::v.ownBlock.toList
theorem RS.mem {k:Nat}:k∈RS sb v↔k=sb∨v.ownBlock=some k:=by
 unfold RS;cases h:v.ownBlock with
 | none=>simp
 | some g=>simp[eq_comm]
theorem RLd.lt (h:RLd w sb a len cap d r v seen E):sb<w.heap.size:=h.box.lt 0 rfl
theorem RLd.ge (h:RLd w sb a len cap d r v seen E) {k:Nat} (hk:v.ownBlock=some k):sb+1≤k∧k<w.heap.size:=World.ownsRow.lt h.own k hk
theorem RLd.regs (h:RLd w sb a len cap d r v seen E):Gs w a len cap d:=by
 obtain⟨K,h1,_⟩:=h.gs;exact h1.gs
theorem RLd.below (h:RLd w sb a len cap d r v seen E) (hb:Below w.heap.size w w'):RLd w' sb a len cap d r v seen E:=by
 obtain⟨K,h1,h2⟩:=h.gs;exact⟨h.box.step hb,own_held h.own hb,⟨K,h1.below hb,h2⟩,h.l9⟩
theorem RLd.only {S:List Nat} (h:RLd w sb a len cap d r v seen E) (ho:Only S w w') (hS:∀k∈S,sb<k∧v.ownBlock≠some k):RLd w' sb a len cap d r v seen E:=by
 obtain⟨K,h1,h2⟩:=h.gs;refine⟨h.box.only ho (by intro q hq;simp at hq;subst hq;intro hk;have:=(hS _ hk).1;simp at this),own_only h.own ho (fun k hk hk2=>(hS k hk2).2 hk),⟨K,h1.agree ⟨ho.size,fun k o hk hk2=>?_⟩,h2⟩,h.l9⟩;have hlt:k<w.heap.size:=(Array.getElem?_eq_some_iff.1 hk2).1;rw[ho.block hlt (fun hk3=>by have:=(hS _ hk3).1;have:=h2 k hk;omega)];exact hk2
theorem RLd.err (h:RLd w sb a len cap d r v seen E) (E2:Int):RLd (w.setCell ⟨sb,3,none⟩ (.int .i64 E2)) sb a len cap d r v seen E2:=by
 obtain⟨K,h1,h2⟩:=h.gs;have hb:Below sb w (w.setCell ⟨sb,3,none⟩ (.int .i64 E2)):=(Below.refl _ _).setCell (Nat.le_refl sb) _;exact⟨h.box.put 3 _ (by intro q hq;simp at hq),own_set h.own ⟨sb,3,none⟩ _ (fun e=>by have:=(h.ge e).1;simp at this;omega),⟨K,h1.agree ⟨hb.size,fun k o hk hk2=>(hb.block k (h2 k hk)).trans hk2⟩,h2⟩,h.l9⟩
end
def RSeePost (w:World) (sb:Nat) (a:Option Addr) (len cap:Nat) (d:List Rg) (r:Int) (v:Value) (seen:List Int) (E p:Int) (e:Ending) (w':World):Prop:=
 e=.returned (.tuple #[])∧∃v',RLd w' sb a len cap d r v' (seen++[p]) (if E=0∧p∈seen then 11 else E)∧Only (RS sb v) w w'∧Turn w v v'
theorem rsee_any {w:World} {sb:Nat} {a:Option Addr} {len cap:Nat} {d:List Rg} {r:Int} {v:Value} {seen:List Int} {E:Int} (h:RLd w sb a len cap d r v seen E) (hl:seen.length≤100000) (p:Int) :
 Calls Tryz.prog 99 #[.pointer (some ⟨sb,0,none⟩),.int .i64 p] w (RSeePost w sb a len cap d r v seen E p):=by
 obtain⟨av,cv,rfl,hcv,hcm,_⟩:=own_slice h.own;unfold maxLen at hcm;obtain⟨a',c',e',hrow⟩:=Row.of_own h.own;cases e';have hsl:=h.lt;have hne:∀x,av=some x→x.block≠sb:=fun x ex=>by have:=(h.ge (k:=x.block) (by rw[ex];rfl)).1;omega
 have HROW:=Hd hrow;have HH:=Hd h;have HS:=Hd (show RLd w sb a len cap d r (.slice av seen.length cv) seen (if E=0∧p∈seen.take 0 then 11 else E)∧Only [sb] w w from⟨by simpa using h,Only.refl _ _⟩);clear h hrow;go_enter Tryz.func99,Tryz.ntmps99;go_wp2_with fail
 go_loopw [4] (fun s4 wr=>∃i:Nat,i≤seen.length∧s4=.int .i64 i∧RLd wr sb a len cap d r (.slice av seen.length cv) seen (if E=0∧p∈seen.take i then 11 else E)∧Only [sb] w wr) (fun s _=>seen.length-(intOf s).toNat)
 case atStart=>exact⟨0,Nat.zero_le _,rfl,HS.out⟩
 case round=>
  clear HS;obtain⟨i,hi,rfl,h1,ho⟩:=hrel;have b2:=h1.box.cell 0 2 rfl rfl;have b3:=h1.box.cell 0 3 rfl rfl;have f3:=h1.box.frozen 0 3 rfl;have f2:=h1.box.frozen 0 2 rfl;have hswr:=ho.size;have iw2:IntKind.i64.wrap ((i:Int)+1)=(i:Int)+1:=by simp[IntKind.wrap,IntKind.signed,IntKind.bits];omega
  by_cases hlt:i<seen.length
  ·obtain⟨b,off,rfl,hbl,hc⟩:=(row_only HROW.out ho (fun x ex=>hne x ex)).2.2.2.2.resolve_left (by omega)
   have k0:=hc i hlt;obtain⟨q,hq⟩:∃q,seen[i]? = some q:=⟨seen[i]'hlt,by simp⟩
   rw[hq] at k0;have k0:wr.cell? ⟨b,off+i,none⟩=some (.int .i64 q):=k0;have htk:seen.take (i+1)=seen.take i++[q]:=List.take_succ_eq_append_of hq;have q1:decide ((i:Int)<(seen.length:Int))=true:=decide_eq_true (by omega);have q2:decide (i<seen.length)=true:=decide_eq_true hlt
   by_cases hpq:q=p
   ·subst hpq
    by_cases hE:E=0∧q∉seen.take i
    ·obtain⟨hE0,hni⟩:=hE
     rw[if_neg (fun h=>hni h.2)] at h1 b3;subst hE0;have hnew:RLd (wr.setCell ⟨sb,3,none⟩ (.int .i64 11)) sb a len cap d r (.slice (some ⟨b,off,none⟩) seen.length cv) seen (if (0:Int)=0∧q∈seen.take (i+1) then 11 else 0):=by
      rw[htk,if_pos ⟨rfl,by simp⟩];exact h1.err 11
     have HN:=Hd hnew;have hon:Only [sb] w (wr.setCell ⟨sb,3,none⟩ (.int .i64 11)):=ho.set _ _ (by simp);have HO:=Hd hon;clear h1 ho hc hq htk hnew hon hni;go_wp2_with fail;go_roundw
     case rel=>exact⟨i+1,hlt,by go_num,by simpa using HN.out,HO.out⟩
     case measure=>simp[intOf];omega
    ·have hold:(if E=0∧q∈seen.take i then 11 else E:Int)≠0:=by
      split
      ·omega
      ·rename_i h2
       intro e;exact hE ⟨e,fun h3=>h2 ⟨e,h3⟩⟩
     have hsame:(if E=0∧q∈seen.take (i+1) then 11 else E:Int)=if E=0∧q∈seen.take i then 11 else E:=by
      rw[htk]
      by_cases h0:E=0
      ·rw[if_pos ⟨h0,by simp⟩,if_pos ⟨h0,Classical.not_not.1 (fun h3=>hE ⟨h0,h3⟩)⟩]
      ·rw[if_neg (fun h=>h0 h.1),if_neg (fun h=>h0 h.1)]
     have HN:=Hd h1;have HO:=Hd ho;have HSAME:=Hd hsame;generalize (if E=0∧q∈seen.take i then 11 else E:Int)=E1 at *;have q3:(E1 == 0)=false:=by simpa using hold
     clear h1 ho hc hq htk hsame hE;go_wp2_with fail;go_roundw
     case rel=>exact⟨i+1,hlt,by go_num,by rw[HSAME.out];exact HN.out,HO.out⟩
     case measure=>simp[intOf];omega
   ·have hsame:(if E=0∧p∈seen.take (i+1) then 11 else E:Int)=if E=0∧p∈seen.take i then 11 else E:=by
     rw[htk];have:p∈seen.take i++[q]↔p∈seen.take i:=by simp[Ne.symm hpq]
     simp only[this]
    have q3:(q == p)=false:=by simpa using hpq
    have HN:=Hd h1;have HO:=Hd ho;have HSAME:=Hd hsame;generalize (if E=0∧p∈seen.take i then 11 else E:Int)=E1 at *;clear h1 ho hc hq htk hsame;go_wp2_with fail;go_roundw
    case rel=>exact⟨i+1,hlt,by go_num,by rw[HSAME.out];exact HN.out,HO.out⟩
    case measure=>simp[intOf];omega
  ·have hin:i=seen.length:=by omega
   subst hin;rw[List.take_length] at h1 b3;generalize hE1:(if E=0∧p∈seen then 11 else E:Int)=E1 at *;have q1:decide ((seen.length:Int)<(seen.length:Int))=false:=decide_eq_false (by omega);have q2:decide (seen.length<seen.length)=false:=decide_eq_false hlt;obtain⟨i0,hi0,hz0,hz1,hz2⟩:=info_parts info_i64C;obtain⟨v',w1,hr1,ho1,hg1,hv1⟩:=run_append_new (P:=Tryz.prog) (w:=wr) (sb+1) 35 3 i0 _ 1 8 Tryz.underlying35 hi0 hz0 hz1 hz2 rfl (by decide) h1.own #[.int .i64 p] rfl (by intro u hu;simp at hu;subst hu;rfl) (by unfold maxLen;omega) (by omega) (by omega);have hgb:∀k,(Value.slice av seen.length cv).ownBlock=some k→sb+1≤k∧k<wr.heap.size:=fun k hk=>h1.ge hk
   have hx1:Boxes w1 [(sb,[.slice a len cap,.int .i64 r,.slice av seen.length cv,.int .i64 E1])]:=h1.box.grown hg1 (by intro q hq e;simp at hq;subst hq;have:=(hgb _ e).1;have h2:sb+1≤sb:=this;omega);have k2:=hx1.cell 0 2 rfl rfl;have u2:=hx1.frozen 0 2 rfl;obtain⟨a1,c1,rfl,_⟩:=own_slice ho1;have hn':(Value.slice a1 (seen.length+1) c1).ownBlock≠some sb:=fun e=>by have:=own_ge ho1 _ e;omega
   have hb1:Below sb wr w1:=(Below.refl _ _).grown hg1 (by omega) (fun k hk=>by have:=(hgb k hk).1;omega);have hb2:Below sb wr (w1.setCell ⟨sb,2,none⟩ (.slice a1 (seen.length+1) c1)):=hb1.setCell (Nat.le_refl sb) _;have HE:Hid (RSeePost w sb a len cap d r (.slice av seen.length cv) seen E p (.returned (.tuple #[])) (w1.setCell ⟨sb,2,none⟩ (.slice a1 (seen.length+1) c1))):=Hd (by
    refine⟨rfl,.slice a1 (seen.length+1) c1,?_,?_,?_⟩
    ·rw[hE1]
     obtain⟨K,g1,g2⟩:=h1.gs;refine⟨hx1.put 2 _ (by intro q hq;simp at hq),?_,⟨K,g1.agree ⟨hb2.size,fun k o hk hk2=>(hb2.block k (g2 k hk)).trans hk2⟩,g2⟩,h1.l9⟩;rw[List.length_append,List.map_append];exact own_set ho1 ⟨sb,2,none⟩ _ hn'
    ·have hoA:Only (RS sb (.slice av seen.length cv)) w wr:=ho.mono (fun k hk=>by simp at hk;exact RS.mem.2 (.inl hk))
     have hoB:Only (RS sb (.slice av seen.length cv)) wr w1:=Only.of_grown hg1 (fun k hk=>.inl (RS.mem.2 (.inr hk)));exact(hoA.trans hoB).set _ _ (RS.mem.2 (.inl rfl))
    ·rcases hv1 with h|h
     ·exact .inl h
     ·exact .inr fun g e=>by rw[h] at e;have:=Option.some.inj e;omega)
   clear h1 ho hx1 hn' hb1 hb2 ho1 hg1 hv1 hi0 hz0 hz1 hz2 hgb hE1
   go_wp2_with (at_builtin;refine wpList_append_run rfl _ _ _ _ rfl rfl rfl hr1 ?_)
   go_end0
   exact HE.out
open Go.RowKit
def CountsPost (w:World) (pa:Option Addr) (pc:Nat) (la:Option Addr) (lc:Nat) (x:Rg) (e:Ending) (w':World):Prop:=
 e=.returned (.tuple #[.agg #[.slice pa x.size pc,.slice la x.loose.length lc,.int .i64 (cntR x).left,.bool (cntR x).down],.int .i64 (cntE x)])∧Below w.heap.size w w'
theorem counts_rg {w:World} (pa:Option Addr) (pc:Nat) (la:Option Addr) (lc:Nat) (x:Rg) (hl : -1≤x.left) (hr:x.left≤9223372036854775807) :
 Calls Tryz.prog 48 #[.agg #[.slice pa x.size pc,.slice la x.loose.length lc,.int .i64 x.left,.bool x.down]] w (CountsPost w pa pc la lc x):=by
 have hb1:∀c0 c1 c2 c3:Value,Below w.heap.size w (w.alloc (.cells #[c0,c1,c2,c3] 117)):=fun _ _ _ _=>(Below.refl _ _).alloc (Nat.le_refl _) _
 by_cases h0:x.left=0
 ·have q0:(x.left == 0)=true:=by simpa using h0
  have HE:=Hd (show cntE x=3 by rw[cntE,if_pos h0]);have HR:=Hd (show cntR x={ x with down:=true } by rw[cntR,if_pos h0]);clear h0;go_enter Tryz.func48,Tryz.ntmps48;go_wp2_with fail;exact bodyPost_ret (v:=.tuple #[.agg #[.slice pa x.size pc,.slice la x.loose.length lc,.int .i64 x.left,.bool true],.int .i64 3]) (by simp[results,Tryz.results48,go_sem]) rfl ⟨by rw[HE.out,HR.out],((Below.refl _ _).alloc (Nat.le_refl _) _).alloc (by simp) _⟩
 ·have q0:(x.left == 0)=false:=by simpa using h0
  have HE:=Hd (show cntE x=0 by rw[cntE,if_neg h0])
  by_cases h1:0<x.left
  ·have q1:decide (0<x.left)=true:=by simpa using h1
   have HR:=Hd (show cntR x={ x with left:=x.left-1 } by rw[cntR,if_neg h0,if_pos h1]);clear h0;go_enter Tryz.func48,Tryz.ntmps48;go_wp2_with fail;exact bodyPost_ret (v:=.tuple #[.agg #[.slice pa x.size pc,.slice la x.loose.length lc,.int .i64 (x.left-1),.bool x.down],.int .i64 0]) (by simp[results,Tryz.results48,go_sem]) rfl ⟨by rw[HE.out,HR.out],((Below.refl _ _).alloc (Nat.le_refl _) _).alloc (by simp) _⟩
  ·have q1:decide (0<x.left)=false:=by simpa using h1
   have HR:=Hd (show cntR x=x by rw[cntR,if_neg h0,if_neg h1]);clear h0;go_enter Tryz.func48,Tryz.ntmps48;go_wp2_with fail;exact bodyPost_ret (v:=.tuple #[.agg #[.slice pa x.size pc,.slice la x.loose.length lc,.int .i64 x.left,.bool x.down],.int .i64 0]) (by simp[results,Tryz.results48,go_sem]) rfl ⟨by rw[HE.out,HR.out],((Below.refl _ _).alloc (Nat.le_refl _) _).alloc (by simp) _⟩
end Go.Proofs.YtpghlmcoajaiiaaGreatDoor
