/- Texts that other texts of this claim lean on, one behind the other. -/
import Derived.Test.YtpghlmcoajaiiaaGreatDoorB2
import Derived.Test.YtpghlmcoajaiiaaGreatDoorB1
import Derived.Maps.AppendAt
import Derived.Laws.OwnMore
import Derived.Deep.AppendLies
import Derived.RegionTactic
import Derived.OwnWalk
import Derived.Deep.MidRow
import Derived.Deep.WholeRow
import Derived.Great.BuildSlice
import Derived.Maps.Own
import Derived.Maps.OwnOps
import Derived.Maps.Views
import Derived.Deep.RegionHeld
import Derived.Outline
import Derived.Deep.DeepCutAuto
import Derived.Deep.RegionHeld3
import Derived.Deep.RegionLaw
set_option maxHeartbeats 20000000
set_option maxRecDepth 100000
namespace Go.Proofs.YtpghlmcoajaiiaaGreatDoor
open Go.RowKit
theorem beBytes_beVal (t:List UInt8):beBytes (beVal t) t.length=t:=by
 have key:∀r:List UInt8,beBytes (beVal r.reverse) r.reverse.length=r.reverse:=by
  intro r
  induction r with
  | nil=>rfl
  | cons b r ih=>
   rw[List.reverse_cons,beVal_snoc,List.length_append];show beBytes _ (r.reverse.length+1)=_;rw[beBytes];have hb:=b.toNat_lt;have e1:(beVal r.reverse*256+b.toNat) / 256=beVal r.reverse:=by omega
   have e2:UInt8.ofNat (beVal r.reverse*256+b.toNat)=b:=by
    apply UInt8.toNat_inj.1;rw[UInt8.toNat_ofNat'];omega
   rw[e1,e2,ih]
 have:=key t.reverse
 rwa [List.reverse_reverse] at this
theorem unpack_any (a:Option Addr) (len cap:Nat) (l:List UInt8) (w:World) (h:Bs w a len cap l) (hh:Half w) :
 Calls Tryz.prog 138 #[.slice a len cap] w (UnpPost w (unpK l) (unpL l) (unpE l)):=by
 have hl:=h.len
 by_cases h1:len=128
 ·subst h1
  by_cases h2:beVal (l.take 4)=crcOf (l.drop 4)
  ·refine(unpack_ok a cap l w h hh h2 (min (numS l) 122) (by omega)).mono ?_
   intro e w' hp;unfold UnpOk at hp;have hE:unpE l=if unpB l then 0 else 11:=by rw[unpE,if_neg (by omega),if_neg (by simpa using h2)]
   by_cases hB:unpB l=true
   ·rw[if_pos (show(okSC l (min (numS l) 122) && (fits (kindS l) (cutS l (min (numS l) 122)) && pageOf (kindS l) (cutS l (min (numS l) 122)) == l))=true from hB)] at hp
    rw[if_pos hB] at hE;rw[unpK,unpL,hE];exact hp
   ·have hn:¬(okSC l (min (numS l) 122) && (fits (kindS l) (cutS l (min (numS l) 122)) && pageOf (kindS l) (cutS l (min (numS l) 122)) == l))=true:=hB
    rw[if_neg hn] at hp;rw[if_neg hB] at hE;rw[unpK,unpL,hE];exact hp
  ·refine(unpack_sum a cap l w h hh h2).mono ?_
   intro e w' hp;have hE:unpE l=12:=by rw[unpE,if_neg (by omega),if_pos h2]
   rw[unpK,unpL,hE];exact hp
 ·refine(unpack_len a len cap l w h h1).mono ?_
  rintro e w' ⟨rfl,rfl⟩;have hE:unpE l=1:=by rw[unpE,if_pos (by omega)]
  rw[unpK,unpL,hE];exact⟨_,rfl,OwnBss.nil _ _,Below.refl _ _⟩
structure Vv where
 data:List UInt8
 far:Bool
 size:Int
 page:Int
deriving DecidableEq
structure En where
 key:List UInt8
 v:Vv
deriving DecidableEq
def Vv.zero:Vv:=⟨[],false,0,0⟩
def u64N (n:Int):Nat:=(n % 18446744073709551616).toNat
theorem u64N_lt (n:Int):u64N n<18446744073709551616:=by unfold u64N;omega
theorem u64N_of {n:Int} (h0:0≤n) (h1:n<18446744073709551616):u64N n=n.toNat:=by unfold u64N;rw[Int.emod_eq_of_lt h0 h1]
def two (n:Int):List UInt8:=beBytes (u64N n) 2
theorem two_length (n:Int):(two n).length=2:=beBytes_length _ _
def encL (v:Vv):List UInt8:=if v.far then [1]++two v.size++two v.page else [0]++v.data
def encB (v:Vv):List UInt8:=two v.page
def encV (leaf:Bool) (v:Vv):List UInt8:=if leaf then encL v else encB v
def cellN (leaf:Bool) (e:En):List UInt8:=textF e.key++encV leaf e.v
def cellsN (leaf:Bool) (l:List En):List (List UInt8):=l.map (cellN leaf)
theorem cellsN_length (leaf:Bool) (l:List En):(cellsN leaf l).length=l.length:=by simp[cellsN]
theorem textF_length (k:List UInt8):(textF k).length=min k.length 255+1:=by simp[textF];omega
theorem encV_length (leaf:Bool) (v:Vv):(encV leaf v).length=if leaf then (if v.far then 5 else v.data.length+1) else 2:=by
 cases leaf
 ·simp[encV,encB,two_length]
 ·cases h:v.far<;>simp[encV,encL,h,two_length]
def keyB (k:List UInt8):Bool:=k != [] && decide (k.length≤16)
def pageB (n:Int):Bool:=decide (2≤n) && decide (n≤999)
def mayL (e:En):Bool:=
 if e.v.far then keyB e.key && (e.v.data == [] && (decide (16<e.v.size) && (decide (e.v.size≤400) && pageB e.v.page)))
 else keyB e.key && (decide (e.v.data.length≤16) && (e.v.size == 0 && e.v.page == 0))
def firstB (i:Nat) (k:List UInt8):Bool:=if i=0 then k == [] else keyB k
def mayB (i:Nat) (e:En):Bool:=firstB i e.key && (pageB e.v.page && e.v == ⟨[],false,0,e.v.page⟩)
def mayN (leaf:Bool) (i:Nat) (e:En):Bool:=if leaf then mayL e else mayB i e
def leastN (leaf:Bool):Nat:=if leaf then 1 else 2
def kle (a b:List UInt8):Bool:=decide (a<b) || a == b
def stepN (leaf:Bool) (l:List En) (i:Nat):Bool:=mayN leaf i (l[i]?.getD ⟨[],Vv.zero⟩) && !(decide (0<i) && kle (l[i]?.getD ⟨[],Vv.zero⟩).key (l[i-1]?.getD ⟨[],Vv.zero⟩).key)
def upN (leaf:Bool) (l:List En) (n:Nat):Bool:=(List.range n).all (stepN leaf l)
def nodeB (leaf:Bool) (l:List En):Bool:=upN leaf l l.length && (decide (leastN leaf≤l.length) && decide (l.length+lens (cellsN leaf l)≤122))
theorem upN_succ (leaf:Bool) (l:List En) (n:Nat):upN leaf l (n+1)=(upN leaf l n && stepN leaf l n):=by simp[upN,List.range_succ]
theorem upN_mono (leaf:Bool) (l:List En) {m n:Nat} (h:upN leaf l m=false) (hmn:m≤n):upN leaf l n=false:=by
 rw[upN,List.all_eq_false] at h ⊢;obtain⟨x,hx,hx2⟩:=h;exact⟨x,by simp at hx ⊢;omega,hx2⟩
def kindN (leaf:Bool):UInt8:=if leaf then 1 else 2
def putN (leaf:Bool) (l:List En):List UInt8:=if nodeB leaf l then pageOf (kindN leaf) (cellsN leaf l) else []
def putNE (leaf:Bool) (l:List En):Int:=if nodeB leaf l then 0 else 1
theorem fits_node {leaf:Bool} {l:List En} (h:nodeB leaf l=true):fits (kindN leaf) (cellsN leaf l)=true:=by
 simp only[nodeB,Bool.and_eq_true,decide_eq_true_eq] at h;simp only[fits,Bool.and_eq_true,decide_eq_true_eq,cellsN_length];exact⟨by cases leaf<;>rfl,h.2.2⟩
theorem pack_node {leaf:Bool} {l:List En} (h:nodeB leaf l=true):packV (kindN leaf) (cellsN leaf l)=putN leaf l∧packE (kindN leaf) (cellsN leaf l)=putNE leaf l:=by
 rw[packV,packE,putN,putNE,h,fits_node h];exact⟨rfl,rfl⟩
def decV (leaf:Bool) (s:TSt):Option Vv:=
 if leaf then
  if (tNum s 1).1=0 then (if tDone (tRest (tNum s 1).2).2=0 then some ⟨(tRest (tNum s 1).2).1,false,0,0⟩ else none)
  else if (tNum s 1).1=1 then (if tDone (tNum (tNum (tNum s 1).2 2).2 2).2=0 then some ⟨[],true,((tNum (tNum s 1).2 2).1:Int),((tNum (tNum (tNum s 1).2 2).2 2).1:Int)⟩ else none)
  else none
 else if tDone (tNum s 2).2=0 then some ⟨[],false,0,((tNum s 2).1:Int)⟩ else none
def decE (leaf:Bool) (c:List UInt8):Option En:=(decV leaf (tText ⟨c,0⟩).2).map fun v=>⟨(tText ⟨c,0⟩).1,v⟩
def decL (leaf:Bool):List (List UInt8)→Option (List En)
 | []=>some []
 | c::r=>match decE leaf c,decL leaf r with
  | some e,some l=>some (e::l)
  | _,_=>none
theorem decL_append (leaf:Bool) (a b:List (List UInt8)):decL leaf (a++b)=match decL leaf a,decL leaf b with
 | some x,some y=>some (x++y)
 | _,_=>none:=by
 induction a with
 | nil=>simp only[List.nil_append,decL];cases decL leaf b<;>rfl
 | cons c r ih=>
  simp only[List.cons_append,decL,ih];cases decE leaf c<;>cases decL leaf r<;>cases decL leaf b<;>rfl
theorem decL_snoc (leaf:Bool) (a:List (List UInt8)) (c:List UInt8):decL leaf (a++[c])=match decL leaf a,decE leaf c with
 | some x,some y=>some (x++[y])
 | _,_=>none:=by
 rw[decL_append];simp only[decL];cases decL leaf a<;>cases decE leaf c<;>rfl
theorem decL_length {leaf:Bool}:∀{a:List (List UInt8)} {l:List En},decL leaf a=some l→l.length=a.length
 | [],l,h=>by cases h;rfl
 | c::r,l,h=>by
  simp only[decL] at h;cases hc:decE leaf c with
  | none=>rw[hc] at h;cases h
  | some e=>
   cases hr:decL leaf r with
   | none=>rw[hc,hr] at h;cases h
   | some m=>rw[hc,hr] at h;cases h;simp[decL_length hr]
theorem decL_none {leaf:Bool} {a:List (List UInt8)} {k:Nat} {c:List UInt8} (hk:a[k]? = some c) (h:decE leaf c=none):decL leaf a=none:=by
 induction a generalizing k with
 | nil=>simp at hk
 | cons x r ih=>
  simp only[decL];cases k with
  | zero=>cases hk;rw[h]
  | succ k=>rw[ih (k:=k) hk];cases decE leaf x<;>rfl
def leafK (b:List UInt8):Bool:=unpK b == 1
def entN (b:List UInt8):Option (List En):=decL (leafK b) (unpL b)
def getNB (b:List UInt8):Bool:=decide ((unpK b).toNat≤2) && (match entN b with|some l=>nodeB (leafK b) l|none=>false)
def getNE (b:List UInt8):Int:=if unpE b≠0 then unpE b else if getNB b then 0 else 11
def getNL (b:List UInt8):List En:=if getNE b=0 then (entN b).getD [] else []
def getNF (b:List UInt8):Bool:=if getNE b=0 then leafK b else false
theorem takeF_app (a r:List UInt8) (n:Nat) (h:a.length=n):takeF ⟨a++r,0⟩ n=(a,⟨r,0⟩):=by
 subst h;simp[takeF]
theorem tText_app (k:List UInt8) (h:k.length≤255) (r:List UInt8):tText ⟨textF k++r,0⟩=(k,⟨r,0⟩):=by
 have hk:k.take 255=k:=List.take_of_length_le h;have e:tNum ⟨textF k++r,0⟩ 1=(k.length,⟨k++r,0⟩):=by
  rw[textF,hk];show tNum ⟨[UInt8.ofNat k.length]++(k++r),0⟩ 1=_;have h2:¬((0:Int)=0∧((1:Int)<1∨8<(1:Int))):=by omega
  rw[tNum,if_neg h2,show(1:Int).toNat=1 from rfl,takeF_app _ _ 1 rfl];have:beVal [UInt8.ofNat k.length]=k.length:=by simp[beVal,UInt8.toNat_ofNat'];omega
  rw[this]
 rw[tText,e];exact takeF_app _ _ _ rfl
theorem tNum_two (n:Int) (h0:0≤n) (h1:n<65536) (r:List UInt8):tNum ⟨two n++r,0⟩ 2=(n.toNat,⟨r,0⟩):=by
 have:=tNum_be (u64N n) 2 (by decide) (by decide) (by rw[u64N_of h0 (by omega)];omega) r;rw[u64N_of h0 (by omega)] at this;rw[two,u64N_of h0 (by omega)];exact this
theorem keyB_len {k:List UInt8} (h:keyB k=true):k.length≤16:=by
 simp only[keyB,Bool.and_eq_true,decide_eq_true_eq] at h;exact h.2
theorem pageB_iff (n:Int):pageB n=true↔2≤n∧n≤999:=by simp[pageB]
theorem may_len {leaf:Bool} {i:Nat} {e:En} (h:mayN leaf i e=true):e.key.length≤16:=by
 cases leaf
 ·simp only[mayN,mayB,firstB,Bool.false_eq_true,if_false,Bool.and_eq_true] at h
  split at h
  ·have:=h.1;simp at this;rw[this];simp
  ·exact keyB_len h.1
 ·simp only[mayN,mayL,if_true] at h
  split at h<;>(simp only[Bool.and_eq_true] at h;exact keyB_len h.1)
theorem dec_cell {leaf:Bool} {i:Nat} {e:En} (h:mayN leaf i e=true):decE leaf (cellN leaf e)=some e:=by
 have hl:=may_len h;rw[decE,cellN,tText_app _ (by omega)];obtain⟨k,d,f,s,p⟩:=e;cases leaf
 ·simp only[mayN,mayB,Bool.false_eq_true,if_false,Bool.and_eq_true,pageB_iff] at h
  obtain⟨_,⟨h2,h3⟩,h4⟩:=h;simp only[beq_iff_eq,Vv.mk.injEq] at h4;obtain⟨rfl,rfl,rfl,_⟩:=h4;have e1:=tNum_two p (by omega) (by omega) [];rw[List.append_nil] at e1;simp only[encV,encB,decV,Bool.false_eq_true,if_false,e1];have:((p.toNat:Nat):Int)=p:=by omega
  simp[tDone,this]
 ·simp only[mayN,mayL,if_true] at h
  cases f with
  | true=>
   simp only[if_true,Bool.and_eq_true,decide_eq_true_eq,pageB_iff,beq_iff_eq] at h;obtain⟨_,rfl,h2,h3,h4,h5⟩:=h;have e0:tNum ⟨[1]++(two s++two p),0⟩ 1=(1,⟨two s++two p,0⟩):=by
    exact q125602
   have e1:=tNum_two s (by omega) (by omega) (two p);have e2:=tNum_two p (by omega) (by omega) [];rw[List.append_nil] at e2;simp only[encV,encL,decV,if_true,List.append_assoc,e0,e1,e2];have a1:((p.toNat:Nat):Int)=p:=by omega
   have a2:((s.toNat:Nat):Int)=s:=by omega
   simp[tDone,a1,a2]
  | false=>
   simp only[Bool.false_eq_true,if_false,Bool.and_eq_true,decide_eq_true_eq,beq_iff_eq] at h;obtain⟨_,h2,rfl,rfl⟩:=h;have e0:tNum ⟨[0]++d,0⟩ 1=(0,⟨d,0⟩):=by
    exact q125602
   have e1:tRest ⟨d,0⟩=(d,⟨[],0⟩):=by
    have:=takeF_app d [] d.length rfl
    rwa [List.append_nil] at this
   simp only[encV,encL,decV,Bool.false_eq_true,if_false,if_true,e0,e1];simp[tDone]
theorem dec_cells {leaf:Bool}:∀(l:List En),(∀e∈l,∃i,mayN leaf i e=true)→decL leaf (cellsN leaf l)=some l
 | [],_=>rfl
 | e::l,h=>by
  obtain⟨i,hi⟩:=h e (by simp);have:=dec_cells l (fun x hx=>h x (by simp[hx]));simp only[cellsN,List.map_cons,decL,dec_cell hi];rw[show l.map (cellN leaf)=cellsN leaf l from rfl,this]
theorem upN_may {leaf:Bool} {l:List En} {n:Nat} (h:upN leaf l n=true) {i:Nat} (hi:i<n):stepN leaf l i=true:=by
 rw[upN,List.all_eq_true] at h;exact h i (by simpa using hi)
theorem nodeB_may {leaf:Bool} {l:List En} (h:nodeB leaf l=true):∀e∈l,∃i,mayN leaf i e=true:=by
 intro e he;obtain⟨i,hi⟩:=List.mem_iff_getElem?.1 he;simp only[nodeB,Bool.and_eq_true] at h;have hl:=(List.getElem?_eq_some_iff.1 hi).1;have:=upN_may h.1 hl;simp only[stepN,hi,Option.getD_some,Bool.and_eq_true] at this;exact⟨i,this.1⟩
theorem get_putN {leaf:Bool} {l:List En} (h:nodeB leaf l=true):getNE (putN leaf l)=0∧getNL (putN leaf l)=l∧getNF (putN leaf l)=leaf:=by
 have hp:putN leaf l=pageOf (kindN leaf) (cellsN leaf l):=by rw[putN,if_pos h]
 obtain⟨u1,u2,u3⟩:=page_back (kindN leaf) (cellsN leaf l) (fits_node h);have hk:leafK (putN leaf l)=leaf:=by rw[leafK,hp,u2];cases leaf<;>rfl
 have he:entN (putN leaf l)=some l:=by rw[entN,hk,hp,u3,dec_cells l (nodeB_may h)]
 have hk2:decide ((unpK (putN leaf l)).toNat≤2)=true:=by rw[hp,u2];cases leaf<;>rfl
 have hb:getNB (putN leaf l)=true:=by rw[getNB,hk2,he,hk];exact h
 have hE:getNE (putN leaf l)=0:=by rw[getNE,hp,if_neg (by rw[u1];simp),←hp,if_pos hb]
 exact⟨hE,by rw[getNL,if_pos hE,he];rfl,by rw[getNF,if_pos hE,hk]⟩
open Go.RowKit
def Boxes (w:World) (l:List (Nat×List Value)):Prop:=∀p∈l,∃t,w.heap[p.1]? = some (.cells p.2.toArray t (0,0))
theorem Boxes.nil (w:World):Boxes w []:=fun p h=>by simp at h
theorem Boxes.cons {w:World} {l:List (Nat×List Value)} {b:Nat} {vs:List Value} {t:TypeId} (h:w.heap[b]? = some (.cells vs.toArray t (0,0))) (hl:Boxes w l):Boxes w ((b,vs)::l):=by
 intro p hp
 rcases List.mem_cons.1 hp with rfl|hp
 ·exact⟨t,h⟩
 ·exact hl p hp
theorem Boxes.below {w w':World} {l:List (Nat×List Value)} {B:Nat} (h:Boxes w l) (hB:w.heap.size≤B) (hb:Below B w w'):Boxes w' l:=by
 intro p hp;obtain⟨t,ht⟩:=h p hp;exact⟨t,(hb.block p.1 (Nat.lt_of_lt_of_le (Array.getElem?_eq_some_iff.1 ht).1 hB)).trans ht⟩
theorem Boxes.step {w w':World} {l:List (Nat×List Value)} (h:Boxes w l) (hb:Below w.heap.size w w'):Boxes w' l:=h.below (Nat.le_refl _) hb
theorem Boxes.set {w:World} {l:List (Nat×List Value)} (h:Boxes w l) (a:Addr) (u:Value) (hne:∀p∈l,p.1≠a.block):Boxes (w.setCell a u) l:=by
 intro p hp;obtain⟨t,ht⟩:=h p hp;exact⟨t,(Below.heap_setCell w a u p.1 (hne p hp)).trans ht⟩
theorem Boxes.put {w:World} {l:List (Nat×List Value)} {b:Nat} {vs:List Value} (h:Boxes w ((b,vs)::l)) (i:Nat) (u:Value) (hne:∀p∈l,p.1≠b):Boxes (w.setCell ⟨b,i,none⟩ u) ((b,vs.set i u)::l):=by
 obtain⟨t,ht⟩:=h (b,vs) (by simp);refine Boxes.cons (t:=t) ?_ (Boxes.set (fun p hp=>h p (by simp[hp])) _ _ hne);rw[heap_setCell_at i u ht];simp
theorem Boxes.grown {w w':World} {l:List (Nat×List Value)} {row:Option Nat} (h:Boxes w l) (hg:w.grownBy w' row) (hne:∀p∈l,row≠some p.1):Boxes w' l:=by
 intro p hp;obtain⟨t,ht⟩:=h p hp;exact⟨t,(hg.block p.1 (Array.getElem?_eq_some_iff.1 ht).1 (fun e=>hne p hp e.symm)).trans ht⟩
theorem Boxes.cell {w:World} {l:List (Nat×List Value)} (h:Boxes w l) (n i:Nat) {b:Nat} {vs:List Value} {v:Value} (hn:l[n]? = some (b,vs)) (hv:vs[i]? = some v):w.cell? ⟨b,i,none⟩=some v:=by
 obtain⟨t,ht⟩:=h (b,vs) (List.mem_of_getElem? hn);simp only[World.cell?,ht];simpa using hv
theorem Boxes.frozen {w:World} {l:List (Nat×List Value)} (h:Boxes w l) (n i:Nat) {b:Nat} {vs:List Value} (hn:l[n]? = some (b,vs)):w.frozen? ⟨b,i,none⟩=false:=by
 obtain⟨t,ht⟩:=h (b,vs) (List.mem_of_getElem? hn);simp[World.frozen?,ht]
theorem Boxes.lt {w:World} {l:List (Nat×List Value)} (h:Boxes w l) (n:Nat) {b:Nat} {vs:List Value} (hn:l[n]? = some (b,vs)):b<w.heap.size:=by
 obtain⟨t,ht⟩:=h (b,vs) (List.mem_of_getElem? hn);exact(Array.getElem?_eq_some_iff.1 ht).1
theorem Boxes.alloc {w:World} {l:List (Nat×List Value)} (h:Boxes w l) (vs:Array Value) (t:TypeId) {b:Nat} (hb:w.heap.size=b):Boxes (w.alloc (.cells vs t)) ((b,vs.toList)::l):=by
 subst hb;exact Boxes.cons (t:=t) (by rw[World.alloc_heap_new w (.cells vs t)]) (h.step ((Below.refl _ _).alloc (Nat.le_refl _) _))
theorem Boxes.sub {w:World} {l m:List (Nat×List Value)} (h:Boxes w l) (hm:∀p∈m,p∈l):Boxes w m:=fun p hp=>h p (hm p hp)
theorem Boxes.drew {w:World} {l:List (Nat×List Value)} (h:Boxes w l):Boxes w.drew l:=h
theorem own_set {w:World} {base:Nat} {e:TypeId} {size:Nat} {v:Value} {n:Nat} {xs:List Value} (h:w.ownsRow base e size v n xs) (a:Addr) (u:Value) (hne:v.ownBlock≠some a.block):(w.setCell a u).ownsRow base e size v n xs:=by
 refine⟨h.1,h.2.imp id fun⟨g,cap,cur,e1,hg,hh,r⟩=>⟨g,cap,cur,e1,hg,?_,r⟩⟩;rw[Below.heap_setCell w a u g (by subst e1;intro e;exact hne (by rw[←e];rfl))];exact hh
open Go.RowKit
def AppOut (w:World) (base:Nat) (e:TypeId) (size:Nat) (v:Value) (n:Nat) (xs:List Value) (fresh:Nat) (v':Value) (w':World):Prop:=
 w'.ownsRow base e size v' n xs∧w.grownBy w' v.ownBlock∧(v'.ownBlock=v.ownBlock∨v'.ownBlock=some fresh)
section
variable {P:Program}
theorem run_append_row {w:World} (base:Nat) (t e:TypeId) (i:TypeInfo) (z:Value) (bytes:Nat) (ht:P.underlying t=some (.slice e)) (hi:P.info? e=some i) (hz:i.zero=some z)
 (hsize:i.size=1) (hby:i.bytes=bytes) (hzs:z.cells.size=1) {v:Value} {n:Nat} {xs:List Value} (hown:w.ownsRow base e 1 v n xs)
 {k:IntKind} {a:Option Addr} {m c:Nat} {l:List Int} (hrow:Row k w a m c l) (h63:n+m≤maxLen) (hbytes:(n+m)*bytes≤140737488355328) (hbase:base≤w.heap.size) :
 ∃v' w',(Builtin.append_ #[t,t] t #[v,.slice a m c]).run P w=.ok v' w'∧AppOut w base e 1 v (n+m) (xs++l.map (Value.int k)) w.heap.size v' w':=by
 obtain⟨h1,h2,h3,hn,h4⟩:=hrow;cases a with
 | none=>
  have hc:=hn rfl;have hm:m=0:=by omega
  subst hc hm;obtain rfl:l=[]:=List.eq_nil_of_length_eq_zero h1;exact⟨v,w,run_append_owned_none w base t t e i 1 ht hi v n xs hown,by simpa using hown,World.grownBy.refl w _,.inl rfl⟩
 | some ad=>
  obtain⟨v',w',hr,h5,h6,_,h7⟩:=run_append_own_at (P:=P) w base t t e i z 1 bytes ht hi hz hsize hby hzs (by decide) v n xs hown ad m c (l.map (Value.int k)) (by simp[h1]) (by
   intro j u hj;simp only[List.getElem?_map,Option.map_eq_some_iff] at hj;obtain⟨y,hy,rfl⟩:=hj;have hjl:=(List.getElem?_eq_some_iff.1 hy).1
   rcases h4 with h4|⟨b,off,h5,h6,h7⟩
   ·omega
   ·cases h5
    have e:(⟨b,off,none⟩:Addr).add j=⟨b,off+j,none⟩:=by
     unfold Addr.add;split<;>simp_all
    rw[e,h7 j (by omega),hy];rfl) (fun u hu=>by obtain⟨y,_,rfl⟩:=List.mem_map.1 hu;rfl) h63 hbytes hbase
  exact⟨v',w',hr,h5,h6,h7⟩
theorem run_append_new {w:World} (base:Nat) (t e:TypeId) (i:TypeInfo) (z:Value) (size bytes:Nat) (ht:P.underlying t=some (.slice e)) (hi:P.info? e=some i) (hz:i.zero=some z)
 (hsize:i.size=size) (hby:i.bytes=bytes) (hzs:z.cells.size=size) (hsz:0<size) {v:Value} {n:Nat} {xs:List Value} (hown:w.ownsRow base e size v n xs)
 (cs:Array Value) (hcs:cs.size=size) (h1:∀u∈cs.toList,u.oneCell'=true) (h63:n+1≤maxLen) (hbytes:(n+1)*bytes≤140737488355328) (hbase:base≤w.heap.size) :
 ∃v' w',(Builtin.append_ #[t,t] t #[v,.slice (some ⟨w.heap.size,0,none⟩) 1 1]).run P (w.alloc (.cells cs e))=.ok v' w'∧AppOut w base e size v (n+1) (xs++cs.toList) (w.heap.size+1) v' w':=by
 have hb:Below w.heap.size w (w.alloc (.cells cs e)):=(Below.refl _ _).alloc (Nat.le_refl _) _;obtain⟨v',w',hr,h5,h6,_,h7⟩:=run_append_own_at (P:=P) (w.alloc (.cells cs e)) base t t e i z size bytes ht hi hz hsize hby hzs hsz v n xs (by
  refine⟨hown.1,hown.2.imp id fun⟨g,cap,cur,e1,hg,hh,r⟩=>⟨g,cap,cur,e1,hg,?_,r⟩⟩;rw[hb.block g (Array.getElem?_eq_some_iff.1 hh).1];exact hh) ⟨w.heap.size,0,none⟩ 1 1 cs.toList (by simp[hcs]) (by
  intro j u hj;have ea:(⟨w.heap.size,0,none⟩:Addr).add j=⟨w.heap.size,j,none⟩:=by unfold Addr.add;split<;>simp_all
  rw[ea];simp only[World.cell?,World.alloc_heap_new w (.cells cs e)];simpa using hj) h1 h63 hbytes (by simp;omega)
 refine⟨v',w',hr,h5,⟨by rw[h6.os];rfl,by rw[h6.tape];rfl,by rw[h6.output];rfl,Nat.le_trans (by simp) h6.size,fun k hk hne=>?_⟩,by simpa using h7⟩;rw[h6.block k (by simp;omega) hne];exact hb.block k hk
theorem run_append_text {w:World} (base:Nat) (t u e:TypeId) (i:TypeInfo) (ht:P.underlying t=some (.slice e)) (hu:P.underlying u=some .string) (hi:P.info? e=some i) (hz:i.zero=some (.int .u8 0))
 (hsize:i.size=1) (hby:i.bytes=1) {v:Value} {n:Nat} {xs:List Value} (hown:w.ownsRow base e 1 v n xs) (d:List UInt8) (h63:n+d.length≤140737488355328) (hbase:base≤w.heap.size) :
 ∃v' w',(Builtin.append_ #[t,u] t #[v,.string (strOf d)]).run P w=.ok v' w'∧w'.ownsRow base e 1 v' (n+d.length) (xs++(toI d).map (Value.int .u8))∧w.grownBy w' v.ownBlock:=by
 obtain⟨v',w',h1,h2,h3,_⟩:=Lib.run_append_own_string (P:=P) w base t u t e i ht hu hi hz hsize hby v n xs hown (strOf d) (by rw[strOf_size];unfold maxLen;omega) (by rw[strOf_size];omega) hbase;rw[strOf_size,strCells_strOf] at h2;exact⟨v',w',h1,h2,h3⟩
end
section
variable {P:Program} {w:World}
theorem wp_append_run {o:Oper} {a:Act} {K:Act→World→Prop} {Q:Exit→Act→World→Prop} (s x:Operand) (t u:TypeId)
 (ho:o.op=.call { callee:=.builtin .append,args := #[s,x],argTypes := #[t,u] }) {v y v':Value} {w':World} (hs:a.eval s=v) (hx:a.eval x=y)
 (hrun:(Builtin.append_ #[t,u] o.type #[v,y]).run P w=.ok v' w') (h:K (a.put o.dst v') w'):o.wp P a w K Q:=by
 unfold Oper.wp execOp;simp only[ho,resolve,invoke,builtin,Sem.run_bind,Sem.run_pure,Result.andThen_ok,List.map_toArray,List.map_cons,List.map_nil,hs,hx,hrun];exact h
theorem wpList_append_run {ops:Array Oper} {rest:List Oper} {o:Oper} {a:Act} {Q:Exit→Act→World→Prop} (hgd:o.guard=none) (s x:Operand) (t u:TypeId)
 (ho:o.op=.call { callee:=.builtin .append,args := #[s,x],argTypes := #[t,u] }) {v y v':Value} {w':World} (hs:a.eval s=v) (hx:a.eval x=y)
 (hrun:(Builtin.append_ #[t,u] o.type #[v,y]).run P w=.ok v' w') (h:wpList P ops Q rest (a.put o.dst v') w'):wpList P ops Q (o::rest) a w:=
 wpList_plain hgd fun _ hK=>wp_append_run s x t u ho hs hx hrun (hK _ _ h)
theorem step_append_run {ops:Array Oper} {o:Oper} {a:Act} {K:Act→World→Prop} {Q:Exit→Act→World→Prop} {E:Prop} (hgd:o.guard=none) (s x:Operand) (t u:TypeId)
 (ho:o.op=.call { callee:=.builtin .append,args := #[s,x],argTypes := #[t,u] }) {v y v':Value} {w':World} (hs:a.eval s=v) (hx:a.eval x=y)
 (hrun:(Builtin.append_ #[t,u] o.type #[v,y]).run P w=.ok v' w') (h:K (a.put o.dst v') w') :
 if Region.wanted o (yielded ops a.tmps)=true then Oper.wp P o a w K Q else E:=by
 have hw:Region.wanted o (yielded ops a.tmps)=true:=by simp[Region.wanted,hgd]
 rw[if_pos hw];exact wp_append_run s x t u ho hs hx hrun h
end
open Go.RowKit
theorem flat_len {α β:Type} (f:α→List β) (sz:Nat) (hf:∀y,(f y).length=sz):∀l:List α,(l.flatMap f).length=l.length*sz
 | []=>by simp
 | y::l=>by simp[List.flatMap_cons,flat_len f sz hf l,hf y,Nat.add_mul];omega
theorem flat_get {α β:Type} (f:α→List β) (sz:Nat) (hf:∀y,(f y).length=sz):∀(l:List α) (i:Nat) (y:α) (j:Nat) (v:β),l[i]? = some y→(f y)[j]? = some v→(l.flatMap f)[i*sz+j]? = some v
 | [],i,y,j,v,h,_=>by simp at h
 | x::l,0,y,j,v,h,hv=>by
  cases h;have hj:=(List.getElem?_eq_some_iff.1 hv).1;rw[List.flatMap_cons,Nat.zero_mul,Nat.zero_add,List.getElem?_append_left hj];exact hv
 | x::l,i+1,y,j,v,h,hv=>by
  have h':l[i]? = some y:=by simpa using h
  rw[List.flatMap_cons,List.getElem?_append_right (by rw[hf,Nat.add_mul];omega),hf,show(i+1)*sz+j-sz=i*sz+j by rw[Nat.add_mul];omega];exact flat_get f sz hf l i y j v h' hv
theorem TabR.of_own {α:Type} {sz:Nat} {R:List Value→α→Prop} (f:α→List Value) (hf:∀y,(f y).length=sz) (hR:∀y,R (f y) y) {w:World} {base:Nat} {e:TypeId} {v:Value} {l:List α} (h:w.ownsRow base e sz v l.length (l.flatMap f)) :
 ∃a cap,v=.slice a l.length cap∧TabR sz R w a l.length cap l:=by
 obtain⟨h1,h2⟩:=h
 rcases h2 with⟨rfl,h0⟩|⟨g,cap,cur,rfl,hb,hg,hn,hm,hc,ht⟩
 ·have:l.length=0:=h0
  rw[h0];exact⟨none,0,rfl,by omega,Nat.le_refl _,by unfold maxLen;omega,fun _=>rfl,.inl rfl⟩
 ·refine⟨_,cap,rfl,rfl,hn,hm,(fun h=>by cases h),.inr ⟨g,0,rfl,(Array.getElem?_eq_some_iff.1 hg).1,fun i y hy=>⟨f y,hf y,hR y,fun j v hv=>?_⟩⟩⟩
  have hi:=(List.getElem?_eq_some_iff.1 hy).1;have hj:j<sz:=by rw[←hf y];exact(List.getElem?_eq_some_iff.1 hv).1
  have hx:=flat_get f sz hf l i y j v hy hv;rw[←ht] at hx;have hlt:i*sz+j<l.length*sz:=by
   have:=Nat.mul_le_mul_right sz (show i+1≤l.length by omega);rw[Nat.add_mul] at this;omega
  rw[List.getElem?_take_of_lt hlt] at hx;simp only[World.cell?,hg,Nat.zero_add];rw[←Array.getElem?_toList];exact hx
open Go.RowKit
section
variable {P:Program}
theorem run_append_tab {α:Type} {w:World} (base:Nat) (t e:TypeId) (i:TypeInfo) (z:Value) (sz bytes:Nat) (ht:P.underlying t=some (.slice e)) (hi:P.info? e=some i) (hz:i.zero=some z)
 (hsize:i.size=sz) (hby:i.bytes=bytes) (hzs:z.cells.size=sz) (hsz:0<sz) {v:Value} {n:Nat} {xs:List Value} (hown:w.ownsRow base e sz v n xs)
 (R:List Value→α→Prop) (f:α→List Value) (hR:∀cs y,R cs y→cs=f y) (hf:∀y,(f y).length=sz) (h1:∀y,∀u∈f y,u.oneCell'=true)
 {a:Option Addr} {m c:Nat} {l:List α} (hrow:TabR sz R w a m c l) (h63:n+m≤maxLen) (hbytes:(n+m)*bytes≤140737488355328) (hbase:base≤w.heap.size) :
 ∃v' w',(Builtin.append_ #[t,t] t #[v,.slice a m c]).run P w=.ok v' w'∧AppOut w base e sz v (n+m) (xs++l.flatMap f) w.heap.size v' w':=by
 obtain⟨g1,g2,g3,hn,g4⟩:=hrow;cases a with
 | none=>
  have hc:=hn rfl;have hm:m=0:=by omega
  subst hc hm;obtain rfl:l=[]:=List.eq_nil_of_length_eq_zero g1;exact⟨v,w,run_append_owned_none w base t t e i sz ht hi v n xs hown,by simpa using hown,World.grownBy.refl w _,.inl rfl⟩
 | some ad=>
  have hlen:=flat_len f sz hf l;obtain⟨v',w',hr,h5,h6,_,h7⟩:=run_append_own_at (P:=P) w base t t e i z sz bytes ht hi hz hsize hby hzs hsz v n xs hown ad m c (l.flatMap f) (by rw[hlen,g1]) (by
   intro j u hj;have hjl:=(List.getElem?_eq_some_iff.1 hj).1;rw[hlen] at hjl
   rcases g4 with g4|⟨b,off,h5,h6,h7⟩
   ·rw[g1,g4] at hjl;omega
   ·cases h5
    have ea:(⟨b,off,none⟩:Addr).add j=⟨b,off+j,none⟩:=by
     unfold Addr.add;split<;>simp_all
    have hq:j / sz<l.length:=Nat.div_lt_of_lt_mul (by rw[Nat.mul_comm];exact hjl);obtain⟨y,hy⟩:∃y,l[j / sz]? = some y:=⟨_,List.getElem?_eq_getElem hq⟩
    obtain⟨cs,c1,c2,c3⟩:=h7 _ y hy;have hcs:=hR _ _ c2;subst hcs;have hm:j % sz<sz:=Nat.mod_lt _ hsz;obtain⟨u',hu'⟩:∃u',(f y)[j % sz]? = some u':=⟨_,List.getElem?_eq_getElem (by rw[hf];exact hm)⟩
    have hx:=flat_get f sz hf l _ y _ u' hy hu';have hdm:j / sz*sz+j % sz=j:=by rw[Nat.mul_comm];exact Nat.div_add_mod j sz
    rw[hdm,hj] at hx;cases hx;rw[ea];have:=c3 _ u hu'
    rwa [Nat.add_assoc,hdm] at this) (fun u hu=>by
     obtain⟨y,_,hy⟩:=List.mem_flatMap.1 hu;exact h1 y u hy) h63 hbytes hbase
  exact⟨v',w',hr,h5,h6,h7⟩
end
theorem own_put {w:World} {base:Nat} {e:TypeId} {size:Nat} {g n cap:Nat} {xs:List Value} (h:w.ownsRow base e size (.slice (some ⟨g,0,none⟩) n cap) n xs) (j:Nat) (u:Value) (_hj:j<n*size) :
 (w.setCell ⟨g,j,none⟩ u).ownsRow base e size (.slice (some ⟨g,0,none⟩) n cap) n (xs.set j u):=by
 obtain⟨h1,h2⟩:=h;refine⟨by rw[List.length_set];exact h1,.inr ?_⟩
 rcases h2 with⟨hv,_⟩|⟨g',cap',cur,hv,hb,hg,hn,hm,hc,ht⟩
 ·cases hv
 ·cases hv
  refine⟨g,cap,cur.setIfInBounds j u,rfl,hb,heap_setCell_at j u hg,hn,hm,by simpa using hc,?_⟩;rw[←ht,Array.toList_setIfInBounds,List.take_set]
open Go.RowKit
theorem fold_put (off:Nat):∀(vs:List Value) (j:Nat) (cs:Array Value) (p m s:List Value),cs.toList=p++(m++s)→p.length=off+j→m.length=vs.length →
 ((vs.zipIdx j).foldl (fun(cs:Array Value) (x:Value×Nat)=>cs.setIfInBounds (off+x.2) x.1) cs).toList=p++(vs++s)
 | [],j,cs,p,m,s,h,_,hm=>by
  obtain rfl:m=[]:=List.eq_nil_of_length_eq_zero (by simpa using hm);simpa using h
 | v::vs,j,cs,p,m,s,h,hp,hm=>by
  match m,hm with
  | c::m,hm=>
   simp only[List.zipIdx_cons,List.foldl_cons];have ih:=fold_put off vs (j+1) (cs.setIfInBounds (off+j) v) (p++[v]) m s (by
    rw[Array.toList_setIfInBounds,h,List.set_append_right _ _ (by omega),hp,Nat.sub_self];simp) (by simp;omega) (by simpa using hm)
   rw[ih];simp
theorem fold_put' (off:Nat) (vs:Array Value) (cs:Array Value) (p m s:List Value) (h:cs.toList=p++(m++s)) (hp:p.length=off) (hm:m.length=vs.size) :
 vs.zipIdx.foldl (fun(cs:Array Value) (x:Value×Nat)=>cs.setIfInBounds (off+x.2) x.1) cs=(p++(vs.toList++s)).toArray:=by
 have:=fold_put off vs.toList 0 cs p m s h hp (by simpa using hm);rw[←this,←Array.foldl_toList,Array.toList_zipIdx]
theorem fill_two (s0 s1:Nat) (zero:Array Value) (x y:Value) (hz:zero.size=s0+s1) (hx:x.cells.size=s0) (hy:y.cells.size=s1) (place:Nat→Option (Nat×Nat)) (p0:place 0=some (0,s0)) (p1:place 1=some (s0,s1)) :
 Instr.fill place zero [(0,x),(1,y)]=some (x.cells++y.cells):=by
 have e0:=fold_put' 0 x.cells zero [] (zero.toList.take s0) (zero.toList.drop s0) (by simp) rfl (by simp;omega);have e1:=fold_put' s0 y.cells (([]:List Value)++(x.cells.toList++zero.toList.drop s0)).toArray x.cells.toList (zero.toList.drop s0) [] (by simp) (by simpa using hx) (by simp;omega);simp only[Nat.zero_add] at e0;simp only[Instr.fill,p0,p1];rw[if_neg (by simp;omega)];simp only[Nat.zero_add,e0];rw[if_neg (by simp[List.size_toArray];omega)];rw[e1];simp only[List.append_nil]
 congr 1
 apply Array.ext';simp
theorem fill_one (s0:Nat) (zero:Array Value) (x:Value) (hz:zero.size=s0) (hx:x.cells.size=s0) (place:Nat→Option (Nat×Nat)) (p0:place 0=some (0,s0)) :
 Instr.fill place zero [(0,x)]=some x.cells:=by
 have e0:=fold_put' 0 x.cells zero [] zero.toList [] (by simp) rfl (by simp;omega);simp only[Nat.zero_add] at e0;simp only[Instr.fill,p0];rw[if_neg (by simp;omega)];simp only[Nat.zero_add,e0];simp
section
variable {P:Program} {w:World}
theorem run_build_two {t:TypeId} {f0 f1:Field} {it:TypeInfo} {z:Value} {i0 i1:TypeInfo} (hu:P.underlying t=some (.struct #[f0,f1])) (hit:P.info? t=some it) (hz:it.zero=some z)
 (h0:P.info? f0.type=some i0) (h1:P.info? f1.type=some i1) (o0:f0.offset=0) (o1:f1.offset=i0.size) (hzs:z.cells.size=i0.size+i1.size) (x y:Value) (hx:x.cells.size=i0.size) (hy:y.cells.size=i1.size) :
 (Instr.build t #[(0,x),(1,y)]).run P w=.ok (.agg (x.cells++y.cells)) w:=by
 refine run_build w t _ _ ?_;unfold Program.built;simp only[hit,hu,hz,List.mapM_cons,List.mapM_nil,h0,h1,Option.map_some,o0,o1];exact fill_two i0.size i1.size z.cells x y hzs hx hy _ rfl rfl
theorem run_buildSlice_one {t e:TypeId} {ie:TypeInfo} {z:Value} (hu:P.underlying t=some (.slice e)) (hie:P.info? e=some ie) (hz:ie.zero=some z) (_hzs:z.cells.size=ie.size) (hpos:0<ie.size) (hsmall:ie.size≤16777216)
 (x:Value) (hx:x.cells.size=ie.size):(Instr.buildSlice t 1 #[(0,x)]).run P w=.ok (.slice (some ⟨w.heap.size,0,none⟩) 1 1) (w.alloc (.cells x.cells e)):=by
 refine run_buildSlice w t e 1 _ _ ie z hu hie hz (by omega) (by omega) ?_;exact fill_one ie.size _ x (by simp) hx _ (by simp)
end
end Go.Proofs.YtpghlmcoajaiiaaGreatDoor
namespace Go.Proofs.YtpghlmcoajaiiaaGreatDoor
open Go.RowKit Go.Maps
def pcells (l:List UInt8):List Value:=(toI l).map (Value.int .u8)
theorem pcells_length (l:List UInt8):(pcells l).length=l.length:=by simp[pcells,toI]
theorem pcells_one (l:List UInt8):∀v∈pcells l,v.oneCell'=true:=fun v hv=>by
 obtain⟨n,_,rfl⟩:=List.mem_map.1 hv;rfl
theorem pcells_inj {l m:List UInt8} (h:pcells l=pcells m):l=m:=by
 have key:∀l:List UInt8,(pcells l).map (fun v=>match v with | .int _ n=>UInt8.ofNat n.toNat|_=>0)=l:=by
  intro l;simp only[pcells,toI,List.map_map]
  conv=>rhs;rw[←List.map_id l]
  apply List.map_congr_left;intro x _;simp
 rw[←key l,h,key m]
def pv (l:List UInt8):Value:=.agg (pcells l).toArray
theorem pv_inj {l m:List UInt8} (h:pv l=pv m):l=m:=by
 simp only[pv,Value.agg.injEq] at h;exact pcells_inj (by simpa using congrArg Array.toList h)
abbrev P128:={ l:List UInt8 // l.length=128 }
def zpage:P128:=⟨List.replicate 128 0,by simp⟩
instance:Inhabited P128:=⟨zpage⟩
def toP (b:List UInt8):P128:=if h:b.length=128 then ⟨b,h⟩ else zpage
theorem toP_val {b:List UInt8} (h:b.length=128):(toP b).1=b:=by rw[toP,dif_pos h]
open Classical in
noncomputable def pageR (v:Value):Option (DataW Unit×List MemPlace):=
 if h:∃l:List UInt8,l.length=128∧v=pv l then some (.lit (.string (Classical.choose h)),[]) else none
theorem pageR_mk (l:List UInt8) (h:l.length=128):pageR (pv l)=some (.lit (.string l),[]):=by
 have hx:∃m:List UInt8,m.length=128∧pv l=pv m:=⟨l,h,rfl⟩
 unfold pageR;rw[dif_pos hx,←pv_inj (Classical.choose_spec hx).2]
theorem pageR_inv {v:Value} {d:DataW Unit} {ps:List MemPlace} (h:pageR v=some (d,ps)):∃l:List UInt8,l.length=128∧v=pv l∧d=.lit (.string l):=by
 unfold pageR at h
 split at h
 ·rename_i hx
  obtain⟨h1,h2⟩:=Classical.choose_spec hx;simp only[Option.some.injEq,Prod.mk.injEq] at h;exact⟨_,h1,h2,h.1.symm⟩
 ·cases h
def PgMap (w:World) (mb n:Nat) (f:Nat→P128):Prop:=
 ∃D:DataW Unit,w.ownsMap Tryz.prog 3 pageR mb n D∧IsMap D∧∀p:Nat,D.atKey (.int .i64 (p:Int)) (.lit (.string zpage.1))=.lit (.string (f p).1)
theorem int_key:Keyed Tryz.prog 3:=int_keyed Tryz.underlying3
theorem key_int (p:Nat) (h:p≤9223372036854775807):keyOf Tryz.prog 3 (.int .i64 (p:Int))=some (.int .i64 (p:Int)):=
 keyOf_int_mk Tryz.underlying3 (by simp[Lit.wf,IntKind.min,IntKind.max,IntKind.signed,IntKind.bits];omega)
theorem PgMap.made (w:World):PgMap (w.alloc (.map #[] 0)) w.heap.size 0 (fun _=>zpage):=
 ⟨.map [],World.ownsMap_made _ _ _ _,isMap_empty,fun _=>rfl⟩
theorem PgMap.lt {w:World} {mb n:Nat} {f:Nat→P128} (h:PgMap w mb n f):mb<w.heap.size:=by
 obtain⟨D,h1,_⟩:=h;exact h1.lt
theorem PgMap.kept {w w':World} {mb n:Nat} {f:Nat→P128} (h:PgMap w mb n f) (hb:w'.heap[mb]? = w.heap[mb]?):PgMap w' mb n f:=by
 obtain⟨D,⟨es,c,h1,h2⟩,h3⟩:=h;exact⟨D,⟨es,c,hb.trans h1,h2⟩,h3⟩
theorem zero_page (w:World):(zeroValue 122).run Tryz.prog w=.ok (pv zpage.1) w:=by kernel_rfl
theorem PgMap.lookup {w:World} {mb n:Nat} {f:Nat→P128} (h:PgMap w mb n f) (p:Nat) (hp:p≤9223372036854775807) :
 (Instr.lookup 111 (.map (some mb)) (.int .i64 (p:Int)) false).run Tryz.prog w=.ok (pv (f p).1) w:=by
 obtain⟨D,h1,_,h3⟩:=h;obtain⟨v,ps,hr,hv⟩:=h1.lookup int_key Tryz.underlying111 (zero_page w) (pageR_mk zpage.1 zpage.2) (key_int p hp);rw[h3] at hv;obtain⟨l,_,rfl,hd⟩:=pageR_inv hv;simp only[DataW.lit.injEq,Lit.string.injEq] at hd;rw[hr,hd]
end Go.Proofs.YtpghlmcoajaiiaaGreatDoor
namespace Go.Proofs.YtpghlmcoajaiiaaGreatDoor
structure Rg where
 size:Nat
 pages:Nat→P128
 loose:List (Nat×P128)
 left:Int
 down:Bool
def Rg.new (n:Nat):Rg:=⟨n,fun _=>zpage,[],-1,false⟩
instance:Inhabited Rg:=⟨Rg.new 0⟩
def upE (d:List Rg) (r:Int):Int:=
 if 0≤r∧r<d.length then (if (d[r.toNat]?.getD default).down then 3 else 0) else 2
def atR (d:List Rg) (r:Int):Rg:=d[r.toNat]?.getD default
def pagedE (d:List Rg) (r p:Int):Int:=
 if upE d r=0 then (if 0≤p∧p<(atR d r).size then 0 else 2) else upE d r
def cntE (x:Rg):Int:=if x.left=0 then 3 else 0
def cntR (x:Rg):Rg:=if x.left=0 then { x with down:=true } else if 0<x.left then { x with left:=x.left-1 } else x
def lastW (p:Nat) (b:P128) (l:List (Nat×P128)):P128:=l.foldl (fun b w=>if w.1=p then w.2 else b) b
def seen (x:Rg) (p:Nat):P128:=lastW p (x.pages p) x.loose
def readB (d:List Rg) (r p:Int):List UInt8:=if pagedE d r p=0 then (seen (atR d r) p.toNat).1 else []
def writeE (d:List Rg) (r p:Int) (b:List UInt8):Int:=
 if pagedE d r p=0 then (if b.length=128 then cntE (atR d r) else 1) else pagedE d r p
def wroteR (x:Rg) (p:Nat) (b:P128):Rg:=if cntE x=0 then { cntR x with loose:=x.loose++[(p,b)] } else cntR x
def writeD (d:List Rg) (r p:Int) (b:List UInt8):List Rg:=
 if pagedE d r p=0∧b.length=128 then d.set r.toNat (wroteR (atR d r) p.toNat (toP b)) else d
def laid (keep:Nat→Bool):Nat→List (Nat×P128)→(Nat→P128)→Nat→P128
 | _,[],f=>f
 | i,w::l,f=>laid keep (i+1) l (if keep i then fun q=>if q=w.1 then w.2 else f q else f)
def settled (x:Rg) (keep:Nat→Bool):Rg:={ x with pages:=laid keep 0 x.loose x.pages,loose:=[] }
theorem lastW_snoc (p:Nat) (b:P128) (l:List (Nat×P128)) (w:Nat×P128):lastW p b (l++[w])=if w.1=p then w.2 else lastW p b l:=by
 simp[lastW]
open Go.RowKit
open Go.RowKit
def Only (S:List Nat) (w w':World):Prop:=w'.os=w.os∧w'.tape=w.tape∧w'.output=w.output∧w.heap.size≤w'.heap.size∧∀k,k<w.heap.size→k∉S→w'.heap[k]? = w.heap[k]?
theorem Only.size {S:List Nat} {w w':World} (h:Only S w w'):w.heap.size≤w'.heap.size:=h.2.2.2.1
theorem Only.block {S:List Nat} {w w':World} (h:Only S w w') {k:Nat} (hk:k<w.heap.size) (hS:k∉S):w'.heap[k]? = w.heap[k]? := h.2.2.2.2 k hk hS
theorem Only.refl (S:List Nat) (w:World):Only S w w:=⟨rfl,rfl,rfl,Nat.le_refl _,fun _ _ _=>rfl⟩
theorem Only.of_below {S:List Nat} {w w':World} (h:Below w.heap.size w w'):Only S w w':=⟨h.os,h.tape,h.output,h.size,fun k hk _=>h.block k hk⟩
theorem Only.of_grown {S:List Nat} {w w':World} {row:Option Nat} (h:w.grownBy w' row) (hr:∀k,row=some k→k∈S∨w.heap.size≤k):Only S w w':=
 ⟨h.os,h.tape,h.output,h.size,fun k hk hS=>h.block k hk (fun e=>(hr k e.symm).elim hS (fun h=>by omega))⟩
theorem Only.trans {S:List Nat} {a b c:World} (h:Only S a b) (k:Only S b c):Only S a c:=
 ⟨k.1.trans h.1,k.2.1.trans h.2.1,k.2.2.1.trans h.2.2.1,Nat.le_trans h.size k.size,fun _ hi hS=>(k.block (Nat.lt_of_lt_of_le hi h.size) hS).trans (h.block hi hS)⟩
theorem Only.then {S S':List Nat} {a b c:World} (h:Only S a b) (k:Only S' b c) (hs:∀i∈S',i∈S∨a.heap.size≤i):Only S a c:=
 ⟨k.1.trans h.1,k.2.1.trans h.2.1,k.2.2.1.trans h.2.2.1,Nat.le_trans h.size k.size,fun i hi hS=>(k.block (Nat.lt_of_lt_of_le hi h.size) (fun e=>(hs i e).elim hS (fun h=>by omega))).trans (h.block hi hS)⟩
theorem Only.mono {S S':List Nat} {w w':World} (h:Only S w w') (hs:∀k∈S,k∈S'):Only S' w w':=⟨h.1,h.2.1,h.2.2.1,h.size,fun _ hk hS=>h.block hk (fun e=>hS (hs _ e))⟩
theorem Only.set {S:List Nat} {w w':World} (h:Only S w w') (a:Addr) (u:Value) (ha:a.block∈S):Only S w (w'.setCell a u):=
 ⟨h.1,h.2.1,h.2.2.1,by simpa[World.setCell] using h.size,fun k hk hS=>(Below.heap_setCell w' a u k (fun e=>hS (by rw[e];exact ha))).trans (h.block hk hS)⟩
theorem Only.drew {S:List Nat} {w w':World} (h:Only S w w'):Only S w w'.drew:=h
theorem Only.below {S:List Nat} {w w':World} (h:Only S w w') {B:Nat} (hB:B≤w.heap.size) (hS:∀k∈S,B≤k):Below B w w':=
 ⟨h.1,h.2.1,h.2.2.1,h.size,fun k hk=>h.block (by omega) (fun e=>by have:=hS k e;omega)⟩
theorem Boxes.only {S:List Nat} {w w':World} {l:List (Nat×List Value)} (h:Boxes w l) (ho:Only S w w') (hS:∀p∈l,p.1∉S):Boxes w' l:=by
 intro p hp;obtain⟨t,ht⟩:=h p hp;exact⟨t,(ho.block (Array.getElem?_eq_some_iff.1 ht).1 (hS p hp)).trans ht⟩
theorem own_only {S:List Nat} {w w':World} {base:Nat} {e:TypeId} {size:Nat} {v:Value} {n:Nat} {xs:List Value} (h:w.ownsRow base e size v n xs) (ho:Only S w w') (hS:∀k,v.ownBlock=some k→k∉S):w'.ownsRow base e size v n xs:=by
 refine⟨h.1,h.2.imp id fun⟨g,cap,cur,e1,hg,hh,r⟩=>⟨g,cap,cur,e1,hg,?_,r⟩⟩;subst e1;rw[ho.block (Array.getElem?_eq_some_iff.1 hh).1 (hS g rfl)];exact hh
def wcells (x:Nat×P128):List Value:=.int .i64 (x.1:Int)::pcells x.2.1
theorem wcells_length (x:Nat×P128):(wcells x).length=129:=by
 simp[wcells,pcells_length,x.2.2]
theorem wcells_one (x:Nat×P128):∀v∈wcells x,v.oneCell'=true:=fun v hv=>by
 rcases List.mem_cons.1 hv with rfl|hv
 ·rfl
 ·exact pcells_one _ v hv
def RegIn (w:World) (fp:List Nat) (b M:Nat) (x:Rg):Prop:=
 ∃mb n v,w.heap[b]? = some (.cells #[.int .i64 (x.size:Int),.map (some mb),v,.int .i64 x.left,.bool x.down] 114 (0,0))∧PgMap w mb n x.pages ∧
  w.ownsRow 0 124 129 v x.loose.length (x.loose.flatMap wcells)∧n+x.loose.length≤M∧b∈fp∧mb∈fp∧(∀k,v.ownBlock=some k→k∈fp)∧(∀k∈fp,k<w.heap.size)∧x.size≤1000∧(∀p∈x.loose,p.1<x.size)∧x.left≤9223372036854775807
theorem RegIn.only {S:List Nat} {w w':World} {fp:List Nat} {b M:Nat} {x:Rg} (h:RegIn w fp b M x) (ho:Only S w w') (hS:∀k∈fp,k∉S):RegIn w' fp b M x:=by
 obtain⟨mb,n,v,h1,h2,h3,h4,h5,h6,h7,h8,h9⟩:=h;exact⟨mb,n,v,(ho.block (h8 b h5) (hS b h5)).trans h1,h2.kept (ho.block (h8 mb h6) (hS mb h6)),own_only h3 ho (fun k hk=>hS k (h7 k hk)),h4,h5,h6,h7,fun k hk=>Nat.lt_of_lt_of_le (h8 k hk) ho.size,h9⟩
theorem RegIn.more {w:World} {fp:List Nat} {b M M':Nat} {x:Rg} (h:RegIn w fp b M x) (hM:M≤M'):RegIn w fp b M' x:=by
 obtain⟨mb,n,v,h1,h2,h3,h4,h5⟩:=h;exact⟨mb,n,v,h1,h2,h3,by omega,h5⟩
structure DskIn (w:World) (F:List Nat) (db M:Nat) (bs:List (Nat×List Nat)) (d:List Rg):Prop where
 cells:∃pv,w.heap[db]? = some (.cells #[pv] 109 (0,0))∧w.ownsRow 0 110 1 pv d.length (bs.map fun q=>.pointer (some ⟨q.1,0,none⟩))∧(∀k,pv.ownBlock=some k→k∈F∧∀q∈bs,k∉q.2)
 mem:db∈F
 off:∀q∈bs,db∉q.2
 len:bs.length=d.length
 reg:∀(i:Nat) (q:Nat×List Nat) (x:Rg),bs[i]? = some q→d[i]? = some x→RegIn w q.2 q.1 M x
 apart:∀(i j:Nat) (q r:Nat×List Nat),i≠j→bs[i]? = some q→bs[j]? = some r→∀k∈q.2,k∉r.2
 sub:∀q∈bs,∀k∈q.2,k∈F
 lt:∀k∈F,k<w.heap.size
theorem DskIn.only {S:List Nat} {w w':World} {F:List Nat} {db M:Nat} {bs:List (Nat×List Nat)} {d:List Rg} (h:DskIn w F db M bs d) (ho:Only S w w') (hS:∀k∈F,k∉S):DskIn w' F db M bs d:=by
 obtain⟨pv,h1,h2,h3⟩:=h.cells;exact⟨⟨pv,(ho.block (h.lt _ h.mem) (hS _ h.mem)).trans h1,own_only h2 ho (fun k hk=>hS k (h3 k hk).1),h3⟩,h.mem,h.off,h.len,fun i q x hq hx=>(h.reg i q x hq hx).only ho (fun k hk=>hS k (h.sub q (List.mem_of_getElem? hq) k hk)),h.apart,h.sub,fun k hk=>Nat.lt_of_lt_of_le (h.lt k hk) ho.size⟩
theorem DskIn.below {w w':World} {F:List Nat} {db M:Nat} {bs:List (Nat×List Nat)} {d:List Rg} (h:DskIn w F db M bs d) (hb:Below w.heap.size w w'):DskIn w' F db M bs d:=
 h.only (S:=[]) (Only.of_below hb) (fun _ _=>by simp)
theorem DskIn.more {w:World} {F:List Nat} {db M M':Nat} {bs:List (Nat×List Nat)} {d:List Rg} (h:DskIn w F db M bs d) (hM:M≤M'):DskIn w F db M' bs d:=
 ⟨h.cells,h.mem,h.off,h.len,fun i q x hq hx=>(h.reg i q x hq hx).more hM,h.apart,h.sub,h.lt⟩
theorem DskIn.turn {w w':World} {F:List Nat} {db M M':Nat} {bs:List (Nat×List Nat)} {d:List Rg} (h:DskIn w F db M bs d) {i:Nat} {q:Nat×List Nat} (hq:bs[i]? = some q) {fp:List Nat} {x:Rg}
 (ho:Only q.2 w w') (hr:RegIn w' fp q.1 M' x) (hf:∀k∈fp,k∈q.2∨w.heap.size≤k) (hM:M≤M'):DskIn w' (F++fp) db M' (bs.set i (q.1,fp)) (d.set i x):=by
 obtain⟨pv,h1,h2,h3⟩:=h.cells;have hqm:=List.mem_of_getElem? hq;have hi:=(List.getElem?_eq_some_iff.1 hq).1;have hmem:∀r∈bs.set i (q.1,fp),(∃j,j≠i∧bs[j]? = some r)∨r=(q.1,fp):=fun r hr=>by
  obtain⟨j,hj⟩:=List.mem_iff_getElem?.1 hr
  by_cases e:j=i
  ·subst e
   rw[List.getElem?_set_self hi] at hj;exact .inr (by cases hj;rfl)
  ·rw[List.getElem?_set_ne (fun h=>e h.symm)] at hj
   exact .inl ⟨j,e,hj⟩
 have hfp:∀k,k<w.heap.size→k∉q.2→k∉fp:=fun k hk hn hk2=>(hf k hk2).elim hn (fun h=>by omega)
 refine⟨⟨pv,(ho.block (h.lt _ h.mem) (h.off q hqm)).trans h1,?_,fun k hk=>⟨List.mem_append_left _ (h3 k hk).1,fun r hr=>?_⟩⟩,List.mem_append_left _ h.mem,fun r hr=>?_,by simp[h.len],fun j r y hj hy=>?_,fun j1 j2 r s hne hr hs k hk hk2=>?_,fun r hr k hk=>?_,fun k hk=>?_⟩
 ·have:(bs.set i (q.1,fp)).map (fun q=>Value.pointer (some ⟨q.1,0,none⟩))=bs.map fun q=>Value.pointer (some ⟨q.1,0,none⟩):=by
   apply List.ext_getElem?;intro j;rw[List.getElem?_map,List.getElem?_map]
   by_cases e:j=i
   ·subst e
    rw[List.getElem?_set_self hi,hq];rfl
   ·rw[List.getElem?_set_ne (fun h=>e h.symm)]
  rw[this,List.length_set];exact own_only h2 ho (fun k hk=>(h3 k hk).2 q hqm)
 ·rcases hmem r hr with⟨j,_,hj⟩|rfl
  ·exact(h3 k hk).2 r (List.mem_of_getElem? hj)
  ·exact hfp k (h.lt k (h3 k hk).1) ((h3 k hk).2 q hqm)
 ·rcases hmem r hr with⟨j,_,hj⟩|rfl
  ·exact h.off r (List.mem_of_getElem? hj)
  ·exact hfp db (h.lt _ h.mem) (h.off q hqm)
 ·by_cases e:j=i
  ·subst e
   have hjd:j<d.length:=by rw[←h.len];exact hi
   rw[List.getElem?_set_self hi] at hj;rw[List.getElem?_set_self hjd] at hy;cases hj;cases hy;exact hr
  ·rw[List.getElem?_set_ne (fun h=>e h.symm)] at hj hy
   exact((h.reg j r y hj hy).only ho (fun k hk=>fun hk2=>h.apart j i r q e hj hq k hk hk2)).more hM
 ·by_cases e1:j1=i
  ·subst e1
   rw[List.getElem?_set_self hi] at hr;rw[List.getElem?_set_ne hne] at hs;cases hr
   rcases hf k hk with h5|h5
   ·exact h.apart j1 j2 q s hne hq hs k h5 hk2
   ·have:=h.lt k (h.sub s (List.mem_of_getElem? hs) k hk2);omega
  ·rw[List.getElem?_set_ne (fun h=>e1 h.symm)] at hr
   by_cases e2:j2=i
   ·subst e2
    rw[List.getElem?_set_self hi] at hs;cases hs
    rcases hf k hk2 with h5|h5
    ·exact h.apart j1 j2 r q hne hr hq k hk h5
    ·have:=h.lt k (h.sub r (List.mem_of_getElem? hr) k hk);omega
   ·rw[List.getElem?_set_ne (fun h=>e2 h.symm)] at hs
    exact h.apart j1 j2 r s hne hr hs k hk hk2
 ·rcases hmem r hr with⟨j,_,hj⟩|rfl
  ·exact List.mem_append_left _ (h.sub r (List.mem_of_getElem? hj) k hk)
  ·exact List.mem_append_right _ hk
 ·rcases List.mem_append.1 hk with hk|hk
  ·exact Nat.lt_of_lt_of_le (h.lt k hk) ho.size
  ·obtain⟨_,_,_,_,_,_,_,_,_,_,h8,_⟩:=hr
   exact h8 k hk
open Go.RowKit
theorem own_cells1 {w:World} {base:Nat} {e:TypeId} {v:Value} {n:Nat} {xs:List Value} (h:w.ownsRow base e 1 v n xs) :
 ∃a cap,v=.slice a n cap∧xs.length=n∧n≤cap∧cap≤maxLen∧∀i u,xs[i]? = some u→∃g,a=some ⟨g,0,none⟩∧g<w.heap.size∧w.cell? ⟨g,i,none⟩=some u:=by
 obtain⟨h1,h2⟩:=h;simp only[Nat.mul_one] at h1
 rcases h2 with⟨rfl,h0⟩|⟨g,cap,cur,rfl,hb,hg,hn,hm,hc,ht⟩
 ·refine⟨none,0,by rw[h0],by omega,by omega,by unfold maxLen;omega,fun i u hu=>?_⟩
  have:=(List.getElem?_eq_some_iff.1 hu).1;omega
 ·refine⟨_,cap,rfl,by omega,hn,hm,fun i u hu=>⟨g,rfl,(Array.getElem?_eq_some_iff.1 hg).1,?_⟩⟩
  have hi:=(List.getElem?_eq_some_iff.1 hu).1;rw[←ht,List.getElem?_take_of_lt (by omega)] at hu;simp only[World.cell?,hg];rw[←Array.getElem?_toList];exact hu
theorem DskIn.row {w:World} {F:List Nat} {db M:Nat} {bs:List (Nat×List Nat)} {d:List Rg} (h:DskIn w F db M bs d) :
 ∃a cap,w.cell? ⟨db,0,none⟩=some (.slice a d.length cap)∧d.length≤cap∧cap≤9223372036854775807∧∀i q,bs[i]? = some q→∃g,a=some ⟨g,0,none⟩∧w.cell? ⟨g,i,none⟩=some (.pointer (some ⟨q.1,0,none⟩)):=by
 obtain⟨pv,h1,h2,_⟩:=h.cells;obtain⟨a,cap,rfl,h3,h4,h5,h6⟩:=own_cells1 h2;refine⟨a,cap,by simp[World.cell?,h1],h4,by unfold maxLen at h5;omega,fun i q hq=>?_⟩;obtain⟨g,e,_,hc⟩:=h6 i (.pointer (some ⟨q.1,0,none⟩)) (by rw[List.getElem?_map,hq];rfl);exact⟨g,e,hc⟩
theorem of_in {w:World} {F:List Nat} {db M:Nat} {bs:List (Nat×List Nat)} {d:List Rg} (h:DskIn w F db M bs d) (i:Nat) (q:Nat×List Nat) (hq:bs[i]? = some q) :
 Calls Tryz.prog 137 #[.pointer (some ⟨db,0,none⟩),.int .i64 (i:Int)] w fun e w'=>e=.returned (.pointer (some ⟨q.1,0,none⟩))∧w=w':=by
 have hi:i<d.length:=by rw[←h.len];exact(List.getElem?_eq_some_iff.1 hq).1
 obtain⟨a,cap,c0,hcap,hm,hcell⟩:=h.row;obtain⟨g,rfl,c1⟩:=hcell i q hq;have h1:decide ((d.length:Int)≤(i:Int))=false:=by simp;omega
 have h2:decide (d.length≤i)=false:=by simp;omega
 clear hcell h hq;go_enter Tryz.func137,Tryz.ntmps137;exact q72c811
theorem of_out {w:World} {F:List Nat} {db M:Nat} {bs:List (Nat×List Nat)} {d:List Rg} (h:DskIn w F db M bs d) (r:Int) (hr:¬(0≤r∧r<d.length)) :
 Calls Tryz.prog 137 #[.pointer (some ⟨db,0,none⟩),.int .i64 r] w fun e w'=>e=.returned (.pointer none)∧w=w':=by
 obtain⟨a,cap,c0,hcap,hm,hcell⟩:=h.row
 by_cases h0:r<0
 ·have h1:decide (r<0)=true:=by simpa using h0
  clear hcell h hr;go_enter Tryz.func137,Tryz.ntmps137;exact q72c811
 ·have h1:decide (r<0)=false:=by simpa using h0
  have h2:decide ((d.length:Int)≤r)=true:=by simp;omega
  clear hcell h hr;go_enter Tryz.func137,Tryz.ntmps137;exact q72c811
theorem RegIn.cells {w:World} {fp:List Nat} {b M:Nat} {x:Rg} (h:RegIn w fp b M x) :
 ∃mb a cap,w.cell? ⟨b,0,none⟩=some (.int .i64 (x.size:Int))∧w.cell? ⟨b,1,none⟩=some (.map (some mb))∧w.cell? ⟨b,2,none⟩=some (.slice a x.loose.length cap)∧w.cell? ⟨b,3,none⟩=some (.int .i64 x.left)∧w.cell? ⟨b,4,none⟩=some (.bool x.down)∧∀j,w.frozen? ⟨b,j,none⟩=false:=by
 obtain⟨mb,n,v,h1,h2,h3,_⟩:=h;obtain⟨a,cap,rfl,_⟩:=own_slice h3;exact⟨mb,a,cap,by simp[World.cell?,h1],by simp[World.cell?,h1],by simp[World.cell?,h1],by simp[World.cell?,h1],by simp[World.cell?,h1],fun j=>by simp[World.frozen?,h1]⟩
def UpPost (bs:List (Nat×List Nat)) (r er:Int) (e:Ending):Prop:=(er=0∧∃q,bs[r.toNat]? = some q∧e=.returned (.tuple #[.pointer (some ⟨q.1,0,none⟩),.int .i64 0]))∨(er≠0∧e=.returned (.tuple #[.pointer none,.int .i64 er]))
theorem up_any {w:World} {F:List Nat} {db M:Nat} {bs:List (Nat×List Nat)} {d:List Rg} (h:DskIn w F db M bs d) (r:Int) :
 Calls Tryz.prog 92 #[.pointer (some ⟨db,0,none⟩),.int .i64 r] w fun e w'=>UpPost bs r (upE d r) e∧w=w':=by
 by_cases hr:0≤r∧r<d.length
 ·obtain⟨i,rfl⟩:=Int.eq_ofNat_of_zero_le hr.1
  have hi:i<d.length:=by omega
  obtain⟨q,hq⟩:∃q,bs[i]? = some q:=⟨_,List.getElem?_eq_getElem (by rw[h.len];exact hi)⟩
  obtain⟨x,hx⟩:∃x,d[i]? = some x:=⟨_,List.getElem?_eq_getElem hi⟩
  have hs:upE d (i:Int)=if x.down then 3 else 0:=by rw[upE,if_pos hr,Int.toNat_natCast,hx];rfl
  obtain⟨mb,a,cap,c0,c1,c2,c3,c4,_⟩:=(h.reg i q x hq hx).cells;have O:=of_in h i q hq;have HQ:=Hd hq;rw[hs];clear hs hq hx h hr;cases hd:x.down with
  | true=>
   rw[hd] at c4;clear hd;go_enter Tryz.func92,Tryz.ntmps92;go_wp2_with fail;refine O.mono ?_;exact q21aee6
  | false=>
   rw[hd] at c4;clear hd;go_enter Tryz.func92,Tryz.ntmps92;go_wp2_with fail;refine O.mono ?_;rintro e w' ⟨rfl,rfl⟩
   go_wp2
   go_ret2
   exact⟨.inl ⟨rfl,q,HQ.out,rfl⟩,rfl⟩
 ·have hs:upE d r=2:=by rw[upE,if_neg hr]
  have O:=of_out h r hr;rw[hs];clear hs h hr;go_enter Tryz.func92,Tryz.ntmps92;go_wp2_with fail;refine O.mono ?_;exact q21aee6
open Go.RowKit
theorem reg_apart {w:World} {b mb n:Nat} {v:Value} {c0 c1 c2 c3 c4:Value} {f:Nat→P128} {m:Nat} {xs:List Value} (h1:w.heap[b]? = some (.cells #[c0,c1,c2,c3,c4] 114 (0,0))) (h2:PgMap w mb n f) (h3:w.ownsRow 0 124 129 v m xs) :
 mb≠b∧∀k,v.ownBlock=some k→k≠b∧k≠mb:=by
 obtain⟨D,⟨es,c,hm,_⟩,_⟩:=h2;refine⟨(fun e=>by rw[e,h1] at hm;cases hm),fun k hk=>?_⟩
 rcases h3.2 with⟨rfl,_⟩|⟨g,cap,cur,rfl,_,hg,_⟩
 ·cases hk
 ·cases hk
  refine⟨fun e=>?_,fun e=>?_⟩
  ·have e':g=b:=e
   rw[e',h1] at hg;simp only[Option.some.injEq,Obj.cells.injEq] at hg;exact absurd hg.2.1 (by decide)
  ·have e':g=mb:=e
   rw[e',hm] at hg;cases hg
theorem RegIn.left {w:World} {fp:List Nat} {b M:Nat} {x:Rg} (h:RegIn w fp b M x):x.left≤9223372036854775807:=by
 obtain⟨_,_,_,_,_,_,_,_,_,_,_,_,_,h⟩:=h;exact h
theorem RegIn.box {w:World} {fp:List Nat} {b M:Nat} {x:Rg} (h:RegIn w fp b M x) (l:Int) (hl:l≤9223372036854775807) (dn:Bool) (w':World) (ho:Only [b] w w') (hb:∀mb v,w.heap[b]? = some (.cells #[.int .i64 (x.size:Int),.map (some mb),v,.int .i64 x.left,.bool x.down] 114 (0,0))→w'.heap[b]? = some (.cells #[.int .i64 (x.size:Int),.map (some mb),v,.int .i64 l,.bool dn] 114 (0,0))) :
 RegIn w' fp b M { x with left:=l,down:=dn }∧Only fp w w':=by
 obtain⟨mb,n,v,h1,h2,h3,h4,h5,h6,h7,h8,h9,h10,_⟩:=h;obtain⟨a1,a2⟩:=reg_apart h1 h2 h3;refine⟨⟨mb,n,v,hb mb v h1,h2.kept (ho.block h2.lt (by simpa using a1)),own_only h3 ho (fun k hk=>by simpa using(a2 k hk).1),h4,h5,h6,h7,fun k hk=>Nat.lt_of_lt_of_le (h8 k hk) ho.size,h9,h10,hl⟩,ho.mono (fun k hk=>by simp at hk;subst hk;exact h5)⟩
theorem RegIn.setLeft {w:World} {fp:List Nat} {b M:Nat} {x:Rg} (h:RegIn w fp b M x) (l:Int) (hl:l≤9223372036854775807) :
 RegIn (w.setCell ⟨b,3,none⟩ (.int .i64 l)) fp b M { x with left:=l }∧Only fp w (w.setCell ⟨b,3,none⟩ (.int .i64 l)):=
 h.box l hl x.down _ ((Only.refl _ w).set _ _ (by simp)) (fun mb v hh=>by rw[heap_setCell_at 3 _ hh];rfl)
theorem RegIn.setDown {w:World} {fp:List Nat} {b M:Nat} {x:Rg} (h:RegIn w fp b M x) (dn:Bool) :
 RegIn (w.setCell ⟨b,4,none⟩ (.bool dn)) fp b M { x with down:=dn }∧Only fp w (w.setCell ⟨b,4,none⟩ (.bool dn)):=
 h.box x.left h.left dn _ ((Only.refl _ w).set _ _ (by simp)) (fun mb v hh=>by rw[heap_setCell_at 4 _ hh];rfl)
def CountPost (w:World) (fp:List Nat) (b M:Nat) (x:Rg) (e:Ending) (w':World):Prop:=e=.returned (.int .i64 (cntE x))∧Only fp w w'∧RegIn w' fp b M (cntR x)
theorem count_any {w:World} {fp:List Nat} {b M:Nat} {x:Rg} (h:RegIn w fp b M x) :
 Calls Tryz.prog 46 #[.pointer (some ⟨b,0,none⟩)] w (CountPost w fp b M x):=by
 obtain⟨mb,a,cap,c0,c1,c2,c3,c4,hf⟩:=h.cells;have f3:=hf 3;have f4:=hf 4;have H:=Hd h;have h':=h.left;clear hf h
 by_cases h0:x.left=0
 ·have HE:=Hd (show cntE x=3 by rw[cntE,if_pos h0])
  have HR:=Hd (show cntR x={ x with down:=true } by rw[cntR,if_pos h0]);have q0:(x.left == 0)=true:=by simpa using h0
  clear h0;go_enter Tryz.func46,Tryz.ntmps46
  go_wp2
  go_ret;obtain⟨g1,g2⟩:=H.out.setDown true;exact⟨by rw[HE.out];rfl,g2,by rw[HR.out];exact g1⟩
 ·have q0:(x.left == 0)=false:=by simpa using h0
  by_cases h1:0<x.left
  ·have HE:=Hd (show cntE x=0 by rw[cntE,if_neg h0])
   have HR:=Hd (show cntR x={ x with left:=x.left-1 } by rw[cntR,if_neg h0,if_pos h1]);have q1:decide (0<x.left)=true:=by simpa using h1
   have hbig:=h';clear h0;go_enter Tryz.func46,Tryz.ntmps46
   go_wp2
   go_ret;obtain⟨g1,g2⟩:=H.out.setLeft (x.left-1) (by omega);exact⟨by rw[HE.out];rfl,g2,by rw[HR.out];exact g1⟩
  ·have HE:=Hd (show cntE x=0 by rw[cntE,if_neg h0])
   have HR:=Hd (show cntR x=x by rw[cntR,if_neg h0,if_neg h1]);have q1:decide (0<x.left)=false:=by simpa using h1
   clear h0;go_enter Tryz.func46,Tryz.ntmps46
   go_wp2
   go_ret;exact⟨by rw[HE.out];rfl,Only.refl _ _,by rw[HR.out];exact H.out⟩
theorem paged_any {w:World} {F:List Nat} {db M:Nat} {bs:List (Nat×List Nat)} {d:List Rg} (h:DskIn w F db M bs d) (r p:Int) :
 Calls Tryz.prog 45 #[.pointer (some ⟨db,0,none⟩),.int .i64 r,.int .i64 p] w fun e w'=>UpPost bs r (pagedE d r p) e∧w=w':=by
 have U:=up_any h r
 by_cases hu:upE d r=0
 ·have hr:0≤r∧r<d.length:=by
   unfold upE at hu;split at hu
   ·assumption
   ·simp at hu
  obtain⟨i,rfl⟩:=Int.eq_ofNat_of_zero_le hr.1;have hi:i<d.length:=by omega
  obtain⟨q,hq⟩:∃q,bs[i]? = some q:=⟨_,List.getElem?_eq_getElem (by rw[h.len];exact hi)⟩
  obtain⟨x,hx⟩:∃x,d[i]? = some x:=⟨_,List.getElem?_eq_getElem hi⟩
  have hs:pagedE d (i:Int) p=if 0≤p∧p<x.size then 0 else 2:=by rw[pagedE,if_pos hu,atR,Int.toNat_natCast,hx];rfl
  obtain⟨mb,a,cap,c0,c1,c2,c3,c4,_⟩:=(h.reg i q x hq hx).cells;rw[hu] at U;rw[hs];have HQ:=Hd hq;have U:Calls Tryz.prog 92 #[.pointer (some ⟨db,0,none⟩),.int .i64 (i:Int)] w fun e w'=>e=.returned (.tuple #[.pointer (some ⟨q.1,0,none⟩),.int .i64 0])∧w=w':=U.mono fun e w' ⟨h1,h2⟩=>by
   exact q1555f1
  clear hs hq hx h hr hu
  by_cases h1:p<0
  ·have q1:decide (p<0)=true:=by simpa using h1
   rw[if_neg (by omega)];go_enter Tryz.func45,Tryz.ntmps45;go_wp2_with fail;refine U.mono ?_;exact q21aee6
  ·have q1:decide (p<0)=false:=by simpa using h1
   by_cases h2:(x.size:Int)≤p
   ·have q2:decide ((x.size:Int)≤p)=true:=by simpa using h2
    rw[if_neg (by omega)];go_enter Tryz.func45,Tryz.ntmps45;go_wp2_with fail;refine U.mono ?_;exact q21aee6
   ·have q2:decide ((x.size:Int)≤p)=false:=by simpa using h2
    rw[if_pos (by omega)];go_enter Tryz.func45,Tryz.ntmps45;go_wp2_with fail;refine U.mono ?_;rintro e w' ⟨rfl,rfl⟩
    go_wp2
    go_ret2
    exact⟨.inl ⟨rfl,q,by rw[Int.toNat_natCast];exact HQ.out,rfl⟩,rfl⟩
 ·have hs:pagedE d r p=upE d r:=by rw[pagedE,if_neg hu]
  have q0:(upE d r == 0)=false:=by simpa using hu
  rw[hs];generalize upE d r=er at *;have U:Calls Tryz.prog 92 #[.pointer (some ⟨db,0,none⟩),.int .i64 r] w fun e w'=>e=.returned (.tuple #[.pointer none,.int .i64 er])∧w=w':=U.mono fun e w' ⟨h1,h2⟩=>by
   exact q742db7
  have HU:=Hd hu;clear hs hu h;go_enter Tryz.func45,Tryz.ntmps45;go_wp2_with fail;refine U.mono ?_;rintro e w' ⟨rfl,rfl⟩
  go_wp2
  go_ret2
  exact⟨.inr ⟨HU.out,rfl⟩,rfl⟩
open Go.RowKit
section
variable {P:Program}
theorem run_arrayAt {w:World} {arr e:TypeId} {n len cap:Nat} {a:Option Addr} (hu:P.underlying arr=some (.array n e)) (hn:n≤len):(Instr.arrayAt arr (.slice a len cap)).run P w=.ok (.pointer a) w:=by
 unfold Instr.arrayAt;simp only[Sem.run_bind,run_underlying hu w,Result.andThen_ok];rw[if_neg (by omega)]
 rfl
theorem exec_arrayAt {w:World} {a:Act} {o:Oper} (ty:TypeId) (x:Operand) (ho:o.op=.sliceToArrayPointer ty x) {e:TypeId} {n len cap:Nat} {p:Option Addr} (hx:a.eval x=.slice p len cap) (hu:P.underlying ty=some (.array n e)) (hn:n≤len) :
 (execOp a.eval o).run P w=.ok (.value (.pointer p)) w:=by
 unfold execOp;simp only[ho,hx,Sem.run_bind,Sem.run_pure,Result.andThen_ok,run_arrayAt hu hn]
theorem exec_load_mid {w:World} {a:Act} {o:Oper} (ty:TypeId) (x:Operand) (ho:o.op=.load ty x) (b off:Nat) (hx:a.eval x=.pointer (some ⟨b,off,none⟩)) (cs:List Value) (d:TypeDesc) (hc:w.rangeAt b off cs)
 (hu:P.underlying ty=some d) (hd:d.isRow=true) (hi:(P.info? ty).map (·.size)=some cs.length):(execOp a.eval o).run P w=.ok (.value (.agg cs.toArray)) w:=by
 unfold execOp;simp only[ho,hx,Instr.loadAt,Instr.sureAddr,Sem.run_bind,Sem.run_pure,Result.andThen_ok,run_loadVar_mid w b off ty cs d hc hu hd hi]
theorem exec_build_two {w:World} {a:Act} {o:Oper} (t:TypeId) (x y:Operand) (ho:o.op=.build t #[(0,x),(1,y)]) {vx vy v:Value} (hx:a.eval x=vx) (hy:a.eval y=vy) (hr:(Instr.build t #[(0,vx),(1,vy)]).run P w=.ok v w) :
 (execOp a.eval o).run P w=.ok (.value v) w:=by
 unfold execOp;simp only[ho,Sem.run_bind,Sem.run_pure,Result.andThen_ok,List.map_toArray,List.map_cons,List.map_nil,hx,hy,hr]
theorem step_buildSlice_one {ops:Array Oper} {o:Oper} {a:Act} {w:World} {K:Act→World→Prop} {Q:Exit→Act→World→Prop} {E:Prop} (hgd:o.guard=none) (t:TypeId) (x:Operand) (ho:o.op=.buildSlice t 1 #[(0,x)]) {v r:Value} {w':World} (hx:a.eval x=v)
 (hr:(Instr.buildSlice t 1 #[(0,v)]).run P w=.ok r w') (h:K (a.put o.dst r) w'):if Region.wanted o (yielded ops a.tmps)=true then Oper.wp P o a w K Q else E:=by
 have hw:Region.wanted o (yielded ops a.tmps)=true:=by simp[Region.wanted,hgd]
 rw[if_pos hw];unfold Oper.wp execOp;simp only[ho,Sem.run_bind,Sem.run_pure,Result.andThen_ok,List.map_toArray,List.map_cons,List.map_nil,hx,hr];exact h
theorem step_load_run {ops:Array Oper} {o:Oper} {a:Act} {w:World} {K:Act→World→Prop} {Q:Exit→Act→World→Prop} {E:Prop} (hgd:o.guard=none) (ty:TypeId) (x:Operand) (ho:o.op=.load ty x) {v r:Value} (hx:a.eval x=v)
 (hr:(Instr.loadAt ty v).run P w=.ok r w) (h:K (a.put o.dst r) w):if Region.wanted o (yielded ops a.tmps)=true then Oper.wp P o a w K Q else E:=by
 exact q0da5fb
theorem step_store_run {ops:Array Oper} {o:Oper} {a:Act} {w:World} {K:Act→World→Prop} {Q:Exit→Act→World→Prop} {E:Prop} (hgd:o.guard=none) (ty:TypeId) (x y:Operand) (ho:o.op=.store ty x y) {p v:Value} {w':World} (hx:a.eval x=p) (hy:a.eval y=v)
 (hr:(Instr.storeAt ty p v).run P w=.ok () w') (h:K (a.put o.dst undef) w'):if Region.wanted o (yielded ops a.tmps)=true then Oper.wp P o a w K Q else E:=by
 exact q9332b0
end
theorem store_loose {W:World} {b n k:Nat} {a:Option Addr} {u:Value} (h:W.cell? ⟨b,2,none⟩=some u) (hf:W.frozen? ⟨b,2,none⟩=false):(Instr.storeAt 112 (.pointer (some ⟨b,2,none⟩)) (.slice a n k)).run Tryz.prog W=.ok () (W.setCell ⟨b,2,none⟩ (.slice a n k)):=by
 go_simp
theorem load_loose {W:World} {b n k:Nat} {a:Option Addr} (h:W.cell? ⟨b,2,none⟩=some (.slice a n k)):(Instr.loadAt 112 (.pointer (some ⟨b,2,none⟩))).run Tryz.prog W=.ok (.slice a n k) W:=by
 go_simp
theorem info_page:(Tryz.prog.info? 122).map (fun i=>(i.zero,i.size,i.bytes))=some (some (pv zpage.1),128,128):=by kernel_rfl
theorem info_write:(Tryz.prog.info? 124).map (fun i=>(i.zero,i.size,i.bytes))=some (some (.agg (wcells (0,zpage)).toArray),129,136):=by kernel_rfl
theorem info_int:(Tryz.prog.info? 3).map (fun i=>(i.zero,i.size,i.bytes))=some (some (.int .i64 0),1,8):=by kernel_rfl
theorem size_page:(Tryz.prog.info? 122).map (·.size)=some 128:=by
 obtain⟨i,hi,_,hs,_⟩:=info_parts info_page;rw[hi,Option.map_some,hs]
theorem size_write:(Tryz.prog.info? 124).map (·.size)=some 129:=by
 obtain⟨i,hi,_,hs,_⟩:=info_parts info_write;rw[hi,Option.map_some,hs]
theorem build_write (w:World) (p:Nat) (l:P128):(Instr.build 124 #[(0,.int .i64 (p:Int)),(1,pv l.1)]).run Tryz.prog w=.ok (.agg (wcells (p,l)).toArray) w:=by
 obtain⟨i,hi,hz,hs,_⟩:=info_parts info_write;obtain⟨i0,hi0,hz0,hs0,_⟩:=info_parts info_int;obtain⟨i1,hi1,hz1,hs1,_⟩:=info_parts info_page;have:=run_build_two (P:=Tryz.prog) (w:=w) Tryz.underlying124 hi hz hi0 hi1 rfl (by rw[hs0]) (by rw[hs0,hs1];simp[Value.cells,wcells_length]) (.int .i64 (p:Int)) (pv l.1) (by rw[hs0];rfl) (by rw[hs1];simp[pv,Value.cells,pcells_length,l.2]);rw[this];simp[wcells,pv,Value.cells]
theorem row_write (w:World) (x:Nat×P128):(Instr.buildSlice 112 1 #[(0,.agg (wcells x).toArray)]).run Tryz.prog w=.ok (.slice (some ⟨w.heap.size,0,none⟩) 1 1) (w.alloc (.cells (wcells x).toArray 124)):=by
 obtain⟨i,hi,hz,hs,_⟩:=info_parts info_write;exact run_buildSlice_one Tryz.underlying112 hi hz (by rw[hs];simp[Value.cells,wcells_length]) (by omega) (by omega) _ (by rw[hs];simp[Value.cells,wcells_length])
theorem RegIn.push {w:World} {fp:List Nat} {b M:Nat} {x:Rg} (h:RegIn w fp b M x) (p:Nat) (hp:p<x.size) (l:P128) (hM:M≤1000000) :
 ∃a cap v' w',w.cell? ⟨b,2,none⟩=some (.slice a x.loose.length cap)∧(Builtin.append_ #[112,112] 112 #[.slice a x.loose.length cap,.slice (some ⟨w.heap.size,0,none⟩) 1 1]).run Tryz.prog (w.alloc (.cells (wcells (p,l)).toArray 124))=.ok v' w' ∧
  (∃k,w'.cell? ⟨b,2,none⟩=some k)∧w'.frozen? ⟨b,2,none⟩=false∧Only fp w w'∧(∃a' n' c',v'=.slice a' n' c') ∧
  ∃fp',RegIn (w'.setCell ⟨b,2,none⟩ v') fp' b (M+1) { x with loose:=x.loose++[(p,l)] }∧∀k∈fp',k∈fp∨w.heap.size≤k:=by
 obtain⟨mb,n,v,h1,h2,h3,h4,h5,h6,h7,h8,h9,h10,h11⟩:=h;obtain⟨a1,a2⟩:=reg_apart h1 h2 h3;obtain⟨a,cap,rfl,_⟩:=own_slice h3;obtain⟨i,hi,hz,hs,hby⟩:=info_parts info_write;have hn:x.loose.length≤1000000:=by omega
 obtain⟨v',w',hr,ho,hg,hv⟩:=run_append_new (P:=Tryz.prog) 0 112 124 i _ 129 136 Tryz.underlying112 hi hz hs hby (by simp[Value.cells,wcells_length]) (by decide) h3 (wcells (p,l)).toArray (by simp[wcells_length]) (fun u hu=>wcells_one _ u (by simpa using hu)) (by unfold maxLen;omega) (by omega) (Nat.zero_le _);have hb:w'.heap[b]? = some (.cells #[.int .i64 (x.size:Int),.map (some mb),.slice a x.loose.length cap,.int .i64 x.left,.bool x.down] 114 (0,0)):=
  (hg.block b (h8 b h5) (fun e=>(a2 b e.symm).1 rfl)).trans h1
 have hmb:w'.heap[mb]? = w.heap[mb]? := hg.block mb (h8 mb h6) (fun e=>(a2 mb e.symm).2 rfl);have hO:Only fp w w':=Only.of_grown hg (fun k hk=>.inl (h7 k hk));obtain⟨a',cap',rfl,_⟩:=own_slice ho;have hv2:∀k,Value.ownBlock (.slice a' (x.loose.length+1) cap')=some k→k≠b:=fun k hk=>by
  rcases hv with hv|hv
  ·rw[hv] at hk;exact(a2 k hk).1
  ·rw[hv] at hk;cases hk;have:=h8 b h5;omega
 refine⟨a,cap,_,w',by simp[World.cell?,h1],hr,⟨_,by simp only[World.cell?,hb];rfl⟩,by simp[World.frozen?,hb],hO,⟨_,_,_,rfl⟩,fp++(Value.ownBlock (.slice a' (x.loose.length+1) cap')).toList,?_,?_⟩
 ·have hO2:Only [b] w' (w'.setCell ⟨b,2,none⟩ (.slice a' (x.loose.length+1) cap')):=(Only.refl _ _).set _ _ (by simp)
  refine⟨mb,n,.slice a' (x.loose.length+1) cap',?_,?_,?_,?_,List.mem_append_left _ h5,List.mem_append_left _ h6,fun k hk=>List.mem_append_right _ (by rw[hk];simp),fun k hk=>?_,h9,?_,h11⟩
  ·rw[heap_setCell_at 2 _ hb];rfl
  ·exact h2.kept ((hO2.block (Nat.lt_of_lt_of_le (h8 mb h6) hg.size) (by simpa using a1)).trans hmb)
  ·have:=own_only ho hO2 (fun k hk=>by simpa using hv2 k hk)
   simpa using this
  ·simp;omega
  ·have hlt:k<w'.heap.size:=by
    rcases List.mem_append.1 hk with hk|hk
    ·exact Nat.lt_of_lt_of_le (h8 k hk) hg.size
    ·rcases ho.2 with⟨e,_⟩|⟨g,c,cur,e,_,hh,_⟩
     ·rw[e] at hk;simp[Value.ownBlock] at hk
     ·rw[e] at hk;simp[Value.ownBlock] at hk;subst hk;exact(Array.getElem?_eq_some_iff.1 hh).1
   exact Nat.lt_of_lt_of_le hlt hO2.size
  ·intro q hq
   rcases List.mem_append.1 hq with hq|hq
   ·exact h10 q hq
   ·simp at hq;subst hq;exact hp
 ·intro k hk
  rcases List.mem_append.1 hk with hk|hk
  ·exact .inl hk
  ·rcases hv with hv|hv
   ·rw[hv] at hk;exact .inl (h7 k (by simpa using hk))
   ·rw[hv] at hk;simp at hk;right;omega
open Go.RowKit
theorem Bs.range {w:World} {g off len cap:Nat} {l:List UInt8} (h:Bs w (some ⟨g,off,none⟩) len cap l):w.rangeAt g off (pcells l):=by
 intro j v hv;have hj:j<len:=by
  have:=(List.getElem?_eq_some_iff.1 hv).1;rw[pcells_length] at this;have:=h.len;omega
 obtain⟨b,o,e,_,hc⟩:=h.cell hj;cases e;rw[hc j hj];have hl:j<l.length:=by have:=h.len;omega
 simp[pcells,toI,List.getElem?_eq_getElem hl] at hv;rw[List.getElem?_eq_getElem hl,Option.getD_some,hv]
theorem rangeAt_only {S:List Nat} {w w':World} {g off:Nat} {cs:List Value} (h:w.rangeAt g off cs) (ho:Only S w w') (hg:g∉S):w'.rangeAt g off cs:=fun j v hv=>by
 have h1:=h j v hv;rw[←h1];exact World.cell?_of_block (ho.block (World.block_lt_of_cell? w _ h1) hg)
theorem atR_of {d:List Rg} {i:Nat} {x:Rg} (h:d[i]? = some x):atR d (i:Int)=x:=by rw[atR,Int.toNat_natCast,h];rfl
theorem cntE_or (x:Rg):cntE x=0∨cntE x=3:=by unfold cntE;split<;>simp
theorem wrote_size (x:Rg):(cntR x).size=x.size:=by unfold cntR;split<;>(try split)<;>rfl
theorem pagedE_zero {d:List Rg} {r p:Int} (h:pagedE d r p=0):∃i pn:Nat,∃x,r=i∧p=pn∧d[i]? = some x∧x.down=false∧pn<x.size:=by
 unfold pagedE at h
 split at h
 ·rename_i hu
  split at h
  ·rename_i hp
   unfold upE at hu
   split at hu
   ·rename_i hr
    obtain⟨i,rfl⟩:=Int.eq_ofNat_of_zero_le hr.1;obtain⟨pn,rfl⟩:=Int.eq_ofNat_of_zero_le hp.1;have hi:i<d.length:=by omega
    have hx:d[i]? = some d[i]:=List.getElem?_eq_getElem hi;rw[atR_of hx] at hp;rw[Int.toNat_natCast,hx] at hu;refine⟨i,pn,_,rfl,rfl,hx,?_,by omega⟩;cases hd:d[i].down
    ·rfl
    ·simp[hd] at hu
   ·cases hu
  ·cases h
 ·rename_i hu
  exact absurd h hu
def WritePost (w:World) (F:List Nat) (db M:Nat) (d:List Rg) (r p:Int) (l:List UInt8) (e:Ending) (w':World):Prop:=
 e=.returned (.int .i64 (writeE d r p l))∧Only F w w'∧∃F' bs',DskIn w' F' db (M+1) bs' (writeD d r p l)∧∀k∈F',k∈F∨w.heap.size≤k
theorem write_wide {w:World} {F:List Nat} {db M:Nat} {bs:List (Nat×List Nat)} {d:List Rg} (h:DskIn w F db M bs d) {a:Option Addr} {len cap:Nat} {l:List UInt8} (hb:Bs w a len cap l) (hF:len=128→∀g off,a=some ⟨g,off,none⟩→g∉F) (hM:M≤900000) (r p:Int) :
 Calls Tryz.prog 13 #[.pointer (some ⟨db,0,none⟩),.int .i64 r,.int .i64 p,.slice a len cap] w (WritePost w F db M d r p l):=by
 have U:=paged_any h r p;have hll:=hb.len
 by_cases hu:pagedE d r p=0
 ·obtain⟨i,pn,x,rfl,rfl,hx,hdn,hpn⟩:=pagedE_zero hu
  have hi:i<d.length:=(List.getElem?_eq_some_iff.1 hx).1;obtain⟨q,hq⟩:∃q,bs[i]? = some q:=⟨_,List.getElem?_eq_getElem (by rw[h.len];exact hi)⟩
  rw[hu] at U;have U:Calls Tryz.prog 45 #[.pointer (some ⟨db,0,none⟩),.int .i64 (i:Int),.int .i64 (pn:Int)] w fun e w'=>e=.returned (.tuple #[.pointer (some ⟨q.1,0,none⟩),.int .i64 0])∧w=w':=U.mono fun e w' ⟨h1,h2⟩=>by
   exact q1555f1
  have hE:writeE d i pn l=if l.length=128 then cntE x else 1:=by rw[writeE,if_pos hu,atR_of hx]
  have hD:writeD d i pn l=if l.length=128 then d.set i (wroteR x pn (toP l)) else d:=by
   unfold writeD;rw[atR_of hx,Int.toNat_natCast,Int.toNat_natCast]
   by_cases h1:l.length=128
   ·rw[if_pos ⟨hu,h1⟩,if_pos h1]
   ·rw[if_neg (fun h=>h1 h.2),if_neg h1]
  by_cases hl:l.length=128
  ·rw[if_pos hl] at hE hD
   obtain rfl:len=128:=by omega
   obtain⟨g,off,rfl,hg,_⟩:=hb.cell (k:=0) (by omega);have hgF:=hF rfl g off rfl;have hgq:g∉q.2:=fun e=>hgF (h.sub q (List.mem_of_getElem? hq) g e)
   have C:=count_any (h.reg i q x hq hx);have R0:=hb.range
   rcases cntE_or x with hc|hc
   ·
    have hwr:wroteR x pn (toP l)={ cntR x with loose:=(cntR x).loose++[(pn,toP l)] }:=by
     unfold wroteR;rw[if_pos hc];unfold cntR;split<;>(try split)<;>rfl
    have KEY:∀w1,CountPost w q.2 q.1 M x (.returned (.int .i64 0)) w1→∃a9 n9 k9 v9 m9 j9 w9,w1.cell? ⟨q.1,2,none⟩=some (.slice a9 n9 k9)∧(Builtin.append_ #[112,112] 112 #[.slice a9 n9 k9,.slice (some ⟨w1.drew.heap.size,0,none⟩) 1 1]).run Tryz.prog (w1.drew.alloc (.cells (wcells (pn,⟨l,hl⟩)).toArray 124))=.ok (.slice v9 m9 j9) w9 ∧
     (∃k,w9.cell? ⟨q.1,2,none⟩=some k)∧w9.frozen? ⟨q.1,2,none⟩=false∧w1.drew.rangeAt g off (pcells l)∧w9.rangeAt g off (pcells l)∧(w9.setCell ⟨q.1,2,none⟩ (.slice v9 m9 j9)).rangeAt g off (pcells l) ∧
     WritePost w F db M d i pn l (.returned (.int .i64 0)) (w9.setCell ⟨q.1,2,none⟩ (.slice v9 m9 j9)):=by
     rintro w1 ⟨_,o1,r1⟩;have hqb:q.1∈q.2:=by obtain⟨_,_,_,_,_,_,_,h5,_⟩:=h.reg i q x hq hx;exact h5
     obtain⟨a9,k9,_,w9,c1,c2,c3,c4,c5,⟨v9,m9,j9,rfl⟩,fp',c7,c8⟩:=(r1.only (S:=[]) (Only.refl _ _).drew (fun _ _=>by simp)).push pn (by rw[wrote_size];exact hpn) ⟨l,hl⟩ (by omega);have o2:Only q.2 w w9:=o1.drew.trans c5;have o3:Only q.2 w (w9.setCell ⟨q.1,2,none⟩ (.slice v9 m9 j9)):=o2.set _ _ hqb;have hs:=o1.size;refine⟨a9,_,k9,v9,m9,j9,w9,c1,c2,c3,c4,rangeAt_only R0 o1.drew hgq,rangeAt_only R0 o2 hgq,rangeAt_only R0 o3 hgq,by rw[hE,hc],o3.mono (fun k hk=>h.sub q (List.mem_of_getElem? hq) k hk),?_⟩;have hf:∀k∈fp',k∈q.2∨w.heap.size≤k:=fun k hk=>(c8 k hk).imp id (fun h=>Nat.le_trans hs h)
     rw[hD,hwr,show toP l=⟨l,hl⟩ by rw[toP,dif_pos hl]];refine⟨_,_,h.turn hq o3 c7 hf (Nat.le_succ M),fun k hk=>?_⟩
     rcases List.mem_append.1 hk with hk|hk
     ·exact .inl hk
     ·exact(hf k hk).imp (fun e=>h.sub q (List.mem_of_getElem? hq) k e) id
    have C:Calls Tryz.prog 46 #[.pointer (some ⟨q.1,0,none⟩)] w fun e w1=>e=.returned (.int .i64 0)∧CountPost w q.2 q.1 M x (.returned (.int .i64 0)) w1:=C.mono fun e w1 ⟨h1,h2,h3⟩=>⟨by rw[h1,hc],by rw[hc],h2,h3⟩
    clear h hb hF hu hx hdn hq hE hD hgF hgq hll R0 hwr hg hc hi hpn hM;go_enter Tryz.func13,Tryz.ntmps13;go_wp2_with fail;refine U.mono ?_;rintro e w0 ⟨rfl,rfl⟩;go_wp2_with fail;refine C.mono ?_;rintro e w1 ⟨rfl,hC⟩;obtain⟨a9,n9,k9,v9,m9,j9,w9,c9,hr9,⟨k2,c10⟩,f10,hR,h9,h10,END⟩:=KEY w1 hC;have hA:=World.rangeAt_alloc hR (.cells (wcells (pn,⟨l,hl⟩)).toArray 124);have hlt9:=World.block_lt_of_cell? w1 _ c9;have cA:(w1.drew.alloc (.cells (wcells (pn,⟨l,hl⟩)).toArray 124)).cell? ⟨q.1,2,none⟩=some (.slice a9 n9 k9):=((Below.refl w1.heap.size w1.drew).alloc (Nat.le_refl _) _).cell (p:=⟨q.1,2,none⟩) hlt9 |>.trans c9;have c9:w1.drew.cell? ⟨q.1,2,none⟩=some (.slice a9 n9 k9):=c9;have END:=Hd END;clear KEY hC C U;go_wp2_with fail;refine wp_region_noPanic ?_;refine wp_region_held_drew (S:=fun W=>W.rangeAt g off (pcells l)) (by kernel_rfl) (by exact hR) (fun hHeld=>?_);refine tks [0,1] ?_;refine tks [2,3] ?_;refine tks [5,6] ?_;refine wpAnyH_take (i:=7) (oi:={ dst:=some 37,op:=Op.sliceToArrayPointer 122 (Operand.tmp 36),type:=0,pos := "disk.go:120",after := #[{ on:=6,ground:=Ground.data }],guard:=none }) (v:=.pointer (some ⟨g,off,none⟩)) rfl (by kernel_rfl) (by kernel_rfl) (by kernel_rfl) (fun _ _ _ h=>h) (Or.inl ⟨by rfl,fun W _=>exec_arrayAt 122 _ rfl rfl Tryz.underlying122 (Nat.le_refl _)⟩) (by assumption) ?_;refine tku ?_;refine wpAnyH_take (i:=8) (oi:={ dst:=some 38,op:=Op.load 122 (Operand.tmp 37),type:=122,pos := "disk.go:120",after := #[{ on:=7,ground:=Ground.data }],guard:=none }) (v:=pv l) rfl (by kernel_rfl) (by kernel_rfl) (by kernel_rfl) (fun _ _ _ h=>h) (Or.inl ⟨by rfl,fun W hW=>exec_load_mid 122 _ rfl g off rfl (pcells l) _ hW Tryz.underlying122 rfl (by rw[size_page,pcells_length,hl])⟩) (by assumption) ?_;refine tku ?_;refine wpAnyH_take (i:=9) (oi:={ dst:=some 39,op:=Op.build 124 #[(0,Operand.tmp 35),(1,Operand.tmp 38)],type:=124,pos := "disk.go:120",after := #[{ on:=5,ground:=Ground.data },{ on:=8,ground:=Ground.data }],guard:=none }) (v:=.agg (wcells (pn,⟨l,hl⟩)).toArray) rfl (by kernel_rfl) (by kernel_rfl) (by kernel_rfl) (fun _ _ _ h=>h) (Or.inl ⟨by rfl,fun W _=>exec_build_two (vx:=.int .i64 (pn:Int)) (vy:=pv l) 124 _ _ rfl rfl rfl (build_write W pn ⟨l,hl⟩)⟩) (by assumption) ?_;refine tku ?_;refine rdy2 4 10 (fun K hK=>?_) (fun K hK=>?_)
    ·refine step_load_run rfl 112 _ rfl rfl (load_loose c9) ?_
     refine bkw hK (by with_reducible assumption) (fun hHeld=>?_);clear hK K;refine rdy 10 (fun K hK=>?_);refine step_buildSlice_one rfl 112 _ rfl rfl (row_write _ _) ?_;exact qd9c9d7
    ·refine step_buildSlice_one rfl 112 _ rfl rfl (row_write _ _) ?_
     refine bkw hK (by exact hA) (fun hHeld=>?_);clear hK K;refine rdy 4 (fun K hK=>?_);refine step_load_run rfl 112 _ rfl rfl (load_loose cA) ?_;exact qd9c9d7
   ·
    have END:∀w1,CountPost w q.2 q.1 M x (.returned (.int .i64 3)) w1→WritePost w F db M d i pn l (.returned (.int .i64 3)) w1:=by
     rintro w1 ⟨_,o1,r1⟩;refine⟨by rw[hE,hc],o1.mono (fun k hk=>h.sub q (List.mem_of_getElem? hq) k hk),?_⟩;rw[hD,wroteR,if_neg (by rw[hc];decide)];refine⟨_,_,h.turn hq o1 (r1.more (Nat.le_succ M)) (fun k hk=>.inl hk) (Nat.le_succ M),fun k hk=>?_⟩
     rcases List.mem_append.1 hk with hk|hk
     ·exact .inl hk
     ·exact .inl (h.sub q (List.mem_of_getElem? hq) k hk)
    have C:Calls Tryz.prog 46 #[.pointer (some ⟨q.1,0,none⟩)] w fun e w1=>e=.returned (.int .i64 3)∧CountPost w q.2 q.1 M x (.returned (.int .i64 3)) w1:=C.mono fun e w1 ⟨h1,h2,h3⟩=>⟨by rw[h1,hc],by rw[hc],h2,h3⟩
    clear h hb hF hu hx hdn hq hE hD hgF hgq hll R0 hg hc hi hpn hM;go_enter Tryz.func13,Tryz.ntmps13;go_wp2_with fail;refine U.mono ?_;rintro e w0 ⟨rfl,rfl⟩;go_wp2_with fail;refine C.mono ?_;rintro e w1 ⟨rfl,hC⟩;have END:=Hd (END w1 hC);clear hC C U
    go_wp2
    go_ret;exact END.out
  ·rw[if_neg hl] at hE hD
   have q0:((len:Int) == 128)=false:=by simp;omega
   have q1:(len == 128)=false:=by simp;omega
   have END:=Hd (show WritePost w F db M d i pn l (.returned (.int .i64 1)) w from⟨by rw[hE],Only.refl _ _,F,bs,by rw[hD];exact h.more (Nat.le_succ M),fun k hk=>.inl hk⟩);clear h hb hF hu hx hdn hq hE hD hll hi hpn hM hl;go_enter Tryz.func13,Tryz.ntmps13;go_wp2_with fail;refine U.mono ?_;rintro e w0 ⟨rfl,rfl⟩
   go_wp2
   go_ret;exact END.out
 ·have hE:writeE d r p l=pagedE d r p:=by rw[writeE,if_neg hu]
  have hD:writeD d r p l=d:=by rw[writeD,if_neg (fun h=>hu h.1)]
  have END:=Hd (show WritePost w F db M d r p l (.returned (.int .i64 (pagedE d r p))) w from⟨by rw[hE],Only.refl _ _,F,bs,by rw[hD];exact h.more (Nat.le_succ M),fun k hk=>.inl hk⟩);have q0:(pagedE d r p == 0)=false:=by simpa using hu
  clear hE hD;generalize pagedE d r p=er at *;have U:Calls Tryz.prog 45 #[.pointer (some ⟨db,0,none⟩),.int .i64 r,.int .i64 p] w fun e w'=>e=.returned (.tuple #[.pointer none,.int .i64 er])∧w=w':=U.mono fun e w' ⟨h1,h2⟩=>by
   exact q742db7
  clear hu h hb hF hll hM;go_enter Tryz.func13,Tryz.ntmps13;go_wp2_with fail;refine U.mono ?_;rintro e w0 ⟨rfl,rfl⟩
  go_wp2
  go_ret;exact END.out
theorem write_any {w:World} {F:List Nat} {db M:Nat} {bs:List (Nat×List Nat)} {d:List Rg} (h:DskIn w F db M bs d) {a:Option Addr} {len cap:Nat} {l:List UInt8} (hb:Bs w a len cap l) (hF:∀g off,a=some ⟨g,off,none⟩→g∉F) (hM:M≤900000) (r p:Int) :
 Calls Tryz.prog 13 #[.pointer (some ⟨db,0,none⟩),.int .i64 r,.int .i64 p,.slice a len cap] w (WritePost w F db M d r p l):=write_wide h hb (fun _=>hF) hM r p
open Go.RowKit
open Go.RowKit
theorem flatW_get {α:Type} (f:α→List Value) (n:Nat) (hf:∀x,(f x).length=n):∀(l:List α) (k:Nat) (x:α),l[k]? = some x→∀j,j<n→(l.flatMap f)[k*n+j]? = (f x)[j]?
 | [],k,x,h,j,hj=>by simp at h
 | y::l,0,x,h,j,hj=>by
  simp at h;subst h;rw[List.flatMap_cons,Nat.zero_mul,Nat.zero_add,List.getElem?_append_left (by rw[hf];exact hj)]
 | y::l,k+1,x,h,j,hj=>by
  simp at h;rw[List.flatMap_cons,List.getElem?_append_right (by rw[hf,Nat.add_mul];omega),hf,show(k+1)*n+j-n=k*n+j by rw[Nat.add_mul];omega];exact flatW_get f n hf l k x h j hj
theorem own_range {w:World} {base:Nat} {e:TypeId} {v:Value} {l:List (Nat×P128)} (h:w.ownsRow base e 129 v l.length (l.flatMap wcells)) {k:Nat} {x:Nat×P128} (hk:l[k]? = some x) :
 ∃g cap,v=.slice (some ⟨g,0,none⟩) l.length cap∧l.length≤cap∧cap≤maxLen∧w.rangeAt g (k*129) (wcells x):=by
 have hlt:=(List.getElem?_eq_some_iff.1 hk).1
 rcases h.2 with⟨_,h0⟩|⟨g,cap,cur,rfl,_,hg,hn,hm,hc,ht⟩
 ·omega
 ·refine⟨g,cap,rfl,hn,hm,fun j u hu=>?_⟩
  have hj:j<129:=by have:=(List.getElem?_eq_some_iff.1 hu).1;rwa [wcells_length] at this
  have h1:=flatW_get wcells 129 wcells_length l k x hk j hj;rw[hu,←ht,List.getElem?_take_of_lt (by have:(k+1)*129≤l.length*129:=Nat.mul_le_mul_right _ hlt;omega)] at h1;simp only[World.cell?,hg];rw[←Array.getElem?_toList];exact h1
theorem RegIn.loose {w:World} {fp:List Nat} {b M:Nat} {x:Rg} (h:RegIn w fp b M x) :
 ∃a cap,w.cell? ⟨b,2,none⟩=some (.slice a x.loose.length cap)∧x.loose.length≤cap∧cap≤9223372036854775807∧x.loose.length≤M∧∀k y,x.loose[k]? = some y→∃g,a=some ⟨g,0,none⟩∧g∈fp∧w.rangeAt g (k*129) (wcells y):=by
 obtain⟨mb,n,v,h1,h2,h3,h4,h5,h6,h7,h8⟩:=h;obtain⟨a,cap,rfl,hc1,hc2,_⟩:=own_slice h3;refine⟨a,cap,by simp[World.cell?,h1],hc1,by unfold maxLen at hc2;omega,by omega,fun k y hy=>?_⟩;obtain⟨g,cap',e,_,_,hr⟩:=own_range h3 hy;cases e;exact⟨g,rfl,h7 g rfl,hr⟩
theorem load_write {W:World} {g o:Nat} {y:Nat×P128} (h:W.rangeAt g o (wcells y)):(Instr.loadAt 124 (.pointer (some ⟨g,o,none⟩))).run Tryz.prog W=.ok (.agg (wcells y).toArray) W:=
 run_loadAt_mid W g o 124 (wcells y) _ h Tryz.underlying124 rfl (by rw[size_write,wcells_length])
theorem load_page {W:World} {g o:Nat} {l:P128} (h:W.rangeAt g o (pcells l.1)):(Instr.loadAt 122 (.pointer (some ⟨g,o,none⟩))).run Tryz.prog W=.ok (pv l.1) W:=
 run_loadAt_mid W g o 122 (pcells l.1) _ h Tryz.underlying122 rfl (by rw[size_page,pcells_length,l.2])
theorem wcells_page {W:World} {g o:Nat} {y:Nat×P128} (h:W.rangeAt g o (wcells y)):W.rangeAt g (o+1) (pcells y.2.1):=fun j v hv=>by
 have:=h (j+1) v (by simpa[wcells] using hv)
 rwa [show o+1+j=o+(j+1) by omega]
theorem wcells_at {W:World} {g o:Nat} {y:Nat×P128} (h:W.rangeAt g o (wcells y)):W.cell? ⟨g,o,none⟩=some (.int .i64 (y.1:Int)):=h 0 _ rfl
open Go.RowKit
section
variable {P:Program} {w w':World} {o:Oper} {a:Act} {K:Act→World→Prop} {Q:Exit→Act→World→Prop}
theorem wp_load_run (ty:TypeId) (x:Operand) (ho:o.op=.load ty x) {v r:Value} (hx:a.eval x=v) (hr:(Instr.loadAt ty v).run P w=.ok r w) (h:K (a.put o.dst r) w):o.wp P a w K Q:=by
 unfold Oper.wp execOp;simp only[ho,Sem.run_bind,Sem.run_pure,Result.andThen_ok,hx,hr];exact h
end
theorem zero_write (w:World):(zeroValue 124).run Tryz.prog w=.ok (.agg (wcells (0,zpage)).toArray) w:=by kernel_rfl
theorem fresh_there (w:World) (cs:Array Value) (t:TypeId):(w.alloc (.cells cs t)).there w.heap.size 0 cs.size:=fun j hj=>by
 have hh:=World.alloc_heap_new w (.cells cs t)
 constructor
 ·unfold World.cell?;dsimp only;rw[hh];simp[hj]
 ·unfold World.frozen?;dsimp only;rw[hh];simp
theorem setCells_size (b:Nat):∀(vs:List Value) (o:Nat) (w:World),(w.setCells b o vs).heap.size=w.heap.size
 | [],_,_=>rfl
 | v::vs,o,w=>by
  show((w.setCell ⟨b,o,none⟩ v).setCells b (o+1) vs).heap.size=_;rw[setCells_size b vs];simp[World.setCell]
theorem setCells_below {B:Nat} {a:World} (b:Nat) (hb:B≤b):∀(vs:List Value) (o:Nat) {w:World},Below B a w→Below B a (w.setCells b o vs)
 | [],_,_,h=>h
 | v::vs,o,w,h=>by
  show Below B a ((w.setCell ⟨b,o,none⟩ v).setCells b (o+1) vs);exact setCells_below b hb vs (o+1) (h.setCell hb _)
theorem fresh_fill {P:Program} (w:World) (ty:TypeId) (z cs:List Value) (hz:z.length=cs.length) (h1:∀v∈cs,v.oneCell'=true) :
 ∃w1,(storeCells ⟨w.heap.size,0,none⟩ cs).run P (w.alloc (.cells z.toArray ty))=.ok () w1∧Below w.heap.size w w1∧w.heap.size<w1.heap.size∧w1.rangeAt w.heap.size 0 cs∧∀j,w1.frozen? ⟨w.heap.size,j,none⟩=false:=by
 have ht:=fresh_there w z.toArray ty;rw[show z.toArray.size=cs.length by simpa using hz] at ht;have hr:=run_storeCells_cells (P:=P) w.heap.size 0 cs 0 (w.alloc (.cells z.toArray ty)) (fun j hj=>by simpa using(ht j hj).1) (fun j hj=>by have:=(ht j hj).2;rwa [Nat.zero_add] at this ⊢) h1;refine⟨_,hr,setCells_below _ (Nat.le_refl _) _ _ ((Below.refl _ _).alloc (Nat.le_refl _) _),by rw[setCells_size];simp,World.rangeAt_setCells_same _ _ _ _ ht,fun j=>?_⟩;rw[World.frozen?_setCells];unfold World.frozen?;dsimp only;rw[World.alloc_heap_new w (.cells z.toArray ty)];simp
theorem fill_again {P:Program} {w:World} {g:Nat} (_ty:TypeId) (z cs:List Value) (hz:w.rangeAt g 0 z) (hf:∀j,w.frozen? ⟨g,j,none⟩=false) (hl:z.length=cs.length) (h1:∀v∈cs,v.oneCell'=true) {B:Nat} (hB:B≤g) :
 ∃w1,(storeCells ⟨g,0,none⟩ cs).run P w=.ok () w1∧Below B w w1∧w1.heap.size=w.heap.size∧w1.rangeAt g 0 cs∧∀j,w1.frozen? ⟨g,j,none⟩=false:=by
 have ht:w.there g 0 cs.length:=fun j hj=>by
  have hj':j<z.length:=by omega
  refine⟨?_,by simpa using hf _⟩;have:=hz j z[j] (List.getElem?_eq_getElem hj');rw[this];rfl
 have hr:=run_storeCells_cells (P:=P) g 0 cs 0 w (fun j hj=>by simpa using(ht j hj).1) (fun j hj=>by simpa using(ht j hj).2) h1;refine⟨_,hr,setCells_below _ hB _ _ (Below.refl _ _),by rw[setCells_size],World.rangeAt_setCells_same _ _ _ _ (by simpa using ht),fun j=>?_⟩;rw[World.frozen?_setCells];exact hf j
theorem rangeAt_below {B:Nat} {w w':World} {g o:Nat} {cs:List Value} (h:w.rangeAt g o cs) (hb:Below B w w') (hg:g<B):w'.rangeAt g o cs:=fun j v hv=>by
 rw[←h j v hv];exact hb.cell (p:=⟨g,o+j,none⟩) hg
theorem own_step {w w':World} {base:Nat} {e:TypeId} {size:Nat} {v:Value} {n:Nat} {xs:List Value} (h:w.ownsRow base e size v n xs) (hb:Below w.heap.size w w'):w'.ownsRow base e size v n xs:=
 own_only h (Only.of_below (S:=[]) hb) (fun _ _=>by simp)
open Go.RowKit
open Go.RowKit
def ReadPost (w:World) (l:List UInt8) (er:Int) (e:Ending) (w':World):Prop:=
 ∃v,e=.returned (.tuple #[v,.int .i64 er])∧w'.ownsRow w.heap.size 5 1 v l.length ((toI l).map (Value.int .u8))∧Below w.heap.size w w'
theorem zero_page' (w:World):(zeroValue 122).run Tryz.prog w=.ok (.agg (pcells zpage.1).toArray) w:=zero_page w
theorem info_byte:(Tryz.prog.info? 5).map (fun i=>(i.zero,i.size,i.bytes))=some (some (.int .u8 0),1,1):=by kernel_rfl
theorem lastW_take (p:Nat) (b:P128) (l:List (Nat×P128)) (k:Nat) (y:Nat×P128) (h:l[k]? = some y):lastW p b (l.take (k+1))=if y.1=p then y.2 else lastW p b (l.take k):=by
 have hk:=(List.getElem?_eq_some_iff.1 h)
 rw[List.take_succ_eq_append_getElem hk.1,hk.2,lastW_snoc]
theorem row_of_range {w:World} {g:Nat} {l:List UInt8} (h:w.rangeAt g 0 (pcells l)) (hg:g<w.heap.size) (hl:l.length=128):Row .u8 w (some ⟨g,0,none⟩) 128 128 (toI l):=by
 refine⟨by rw[toI_length,hl],Nat.le_refl _,by unfold maxLen;omega,(fun h=>by cases h),.inr ⟨g,0,rfl,hg,fun i hi=>?_⟩⟩;have hil:i<l.length:=by omega
 have:=h i (.int .u8 (l[i].toNat:Int)) (by simp[pcells,toI,List.getElem?_eq_getElem hil]);rw[this];simp[toI,List.getElem?_eq_getElem hil]
theorem RegIn.map {w:World} {fp:List Nat} {b M:Nat} {x:Rg} (h:RegIn w fp b M x):∃mb n,w.cell? ⟨b,1,none⟩=some (.map (some mb))∧PgMap w mb n x.pages:=by
 obtain⟨mb,n,v,h1,h2,_⟩:=h;exact⟨mb,n,by simp[World.cell?,h1],h2⟩
theorem dread_in {w:World} {F:List Nat} {db M:Nat} {bs:List (Nat×List Nat)} {d:List Rg} (h:DskIn w F db M bs d) (i pn:Nat) (x:Rg) (hx:d[i]? = some x) (hdn:x.down=false) (hp:pn<x.size) :
 Calls Tryz.prog 94 #[.pointer (some ⟨db,0,none⟩),.int .i64 (i:Int),.int .i64 (pn:Int)] w (ReadPost w (seen x pn).1 0):=by
 have hi:i<d.length:=(List.getElem?_eq_some_iff.1 hx).1;obtain⟨q,hq⟩:∃q,bs[i]? = some q:=⟨_,List.getElem?_eq_getElem (by rw[h.len];exact hi)⟩
 have R:=h.reg i q x hq hx;have U:=paged_any h (i:Int) (pn:Int);have hsz:x.size≤1000:=by obtain⟨_,_,_,_,_,_,_,_,_,_,_,h9,_⟩:=R;exact h9
 have hu:pagedE d (i:Int) (pn:Int)=0:=by
  have h1:upE d (i:Int)=0:=by
   unfold upE;rw[if_pos (by omega),Int.toNat_natCast,hx];simp[hdn]
  unfold pagedE;rw[if_pos h1,atR_of hx,if_pos (by omega)]
 rw[hu] at U;have U:Calls Tryz.prog 45 #[.pointer (some ⟨db,0,none⟩),.int .i64 (i:Int),.int .i64 (pn:Int)] w fun e w'=>e=.returned (.tuple #[.pointer (some ⟨q.1,0,none⟩),.int .i64 0])∧w=w':=U.mono fun e w' ⟨h1,h2⟩=>by
  exact q1555f1
 obtain⟨a,cap,c2,hc1,hc2,_,hrow⟩:=R.loose;obtain⟨mb,n,c1,hm⟩:=R.map;have LK:(Instr.lookup 111 (.map (some mb)) (.int .i64 (pn:Int)) false).run Tryz.prog w=.ok (.agg (pcells (x.pages pn).1).toArray) w:=hm.lookup pn (by omega);obtain⟨i0,hi0,hz0,hz1,hz2⟩:=info_parts info_byte;obtain⟨w1,hfill,hb1,hs1,hra,hfz⟩:=fresh_fill (P:=Tryz.prog) w 122 (pcells zpage.1) (pcells (x.pages pn).1) (by rw[pcells_length,pcells_length,zpage.2,(x.pages pn).2]) (pcells_one _);have hlt2:=World.block_lt_of_cell? w _ c2;have c2':w1.cell? ⟨q.1,2,none⟩=some (.slice a x.loose.length cap):=(hb1.cell (p:=⟨q.1,2,none⟩) hlt2).trans c2;have ZP:=zero_page';have SP:(pcells (x.pages pn).1).length=128:=by rw[pcells_length,(x.pages pn).2]
 have HR:=Hd hrow;have HX:Hid (x.loose.length=x.loose.length):=Hd rfl;clear h hx hq R hi hu hdn hm hrow hz0 hz1 hz2 hi0;have hi0:=Hd (info_parts info_byte);have HRA:=Hd hra;have HFZ:=Hd hfz;clear hra hfz;go_enter Tryz.func94,Tryz.ntmps94;go_wp2_with fail;refine U.mono ?_;rintro e w' ⟨rfl,rfl⟩;go_wp2_with fail;clear ZP SP hfill LK
 go_loopw [34] (fun s wr=>∃(k:Nat),k≤x.loose.length∧s=.int .i64 k∧wr.rangeAt w.heap.size 0 (pcells (lastW pn (x.pages pn) (x.loose.take k)).1)∧(∀j,wr.frozen? ⟨w.heap.size,j,none⟩=false)∧Below w.heap.size w wr∧w.heap.size<wr.heap.size) (fun s _=>x.loose.length-(intOf s).toNat)
 case atStart=>exact⟨0,Nat.zero_le _,rfl,HRA.out,HFZ.out,hb1,by omega⟩
 case round=>
  obtain⟨k,hk,rfl,hra,hfz,hbw,hgt⟩:=hrel
  by_cases hlt:k<x.loose.length
  ·obtain⟨y,hy⟩:∃y,x.loose[k]? = some y:=⟨_,List.getElem?_eq_getElem hlt⟩
   obtain⟨g,rfl,hgf,hr⟩:=HR.out k y hy;have hr2:wr.rangeAt g (k*129) (wcells y):=rangeAt_only (S:=[]) hr (Only.of_below hbw) (by simp);have HL:=load_write hr2;obtain⟨w2,hfill,hb2,hs2,hra2,hfz2⟩:=fresh_fill (P:=Tryz.prog) wr 124 (wcells (0,zpage)) (wcells y) (by rw[wcells_length,wcells_length]) (wcells_one y);have hc0:=wcells_at hra2;have hra3:=rangeAt_below hra hb2 hgt;have hfz3:∀j,w2.frozen? ⟨w.heap.size,j,none⟩=false:=fun j=>(hb2.frozen (p:=⟨w.heap.size,j,none⟩) hgt).trans (hfz j)
   have hwr:=hbw.size;have ZW:=zero_write;have SZ:=wcells_length y;have HLW:=lastW_take pn (x.pages pn) x.loose k y hy
   by_cases hyp:y.1=pn
   ·rw[if_pos hyp] at HLW
    have HLP:=load_page (wcells_page hra2);obtain⟨w3,hfill3,hb3,hs3,hra4,hfz4⟩:=fill_again (P:=Tryz.prog) (w:=w2) 122 (pcells (lastW pn (x.pages pn) (x.loose.take k)).1) (pcells y.2.1) hra3 hfz3 (by rw[pcells_length,pcells_length,(lastW pn (x.pages pn) (x.loose.take k)).2,y.2.2]) (pcells_one _) (Nat.le_refl w.heap.size);have SP:(pcells y.2.1).length=128:=by rw[pcells_length,y.2.2]
    have END:∃k':Nat,k'≤x.loose.length∧Value.int .i64 ((k+1:Nat):Int)=.int .i64 k'∧w3.rangeAt w.heap.size 0 (pcells (lastW pn (x.pages pn) (x.loose.take k')).1)∧(∀j,w3.frozen? ⟨w.heap.size,j,none⟩=false)∧Below w.heap.size w w3∧w.heap.size<w3.heap.size:=⟨k+1,hlt,rfl,by rw[HLW];exact hra4,hfz4,(hbw.trans (hb2.mono hwr)).trans hb3,by have:=hb3.size;omega⟩
    have END:=Hd END;have q0:((y.1:Int) == (pn:Int))=true:=by simp[hyp]
    have q1:(y.1 == pn)=true:=by simp[hyp]
    clear hra hfz hra2 hfz2 hra3 hfz3 hra4 hfz4 hb2 hb3 hbw hs2 hs3 hwr hr hr2 HLW hyp hy hgt;go_wp2_with fail;refine wp_load_run 124 _ rfl rfl HL ?_
    go_at_K
    go_wp2_with fail;refine wp_load_run 122 _ rfl rfl HLP ?_
    go_at_K
    unfold pv;go_wp2_with fail;go_roundw
    case rel=>exact END.out
    case measure=>simp[intOf];omega
   ·rw[if_neg hyp] at HLW
    have END:∃k':Nat,k'≤x.loose.length∧Value.int .i64 ((k+1:Nat):Int)=.int .i64 k'∧w2.rangeAt w.heap.size 0 (pcells (lastW pn (x.pages pn) (x.loose.take k')).1)∧(∀j,w2.frozen? ⟨w.heap.size,j,none⟩=false)∧Below w.heap.size w w2∧w.heap.size<w2.heap.size:=⟨k+1,hlt,rfl,by rw[HLW];exact hra3,hfz3,hbw.trans (hb2.mono hwr),by omega⟩
    have END:=Hd END;have q0:((y.1:Int) == (pn:Int))=false:=by simp;omega
    have q1:(y.1 == pn)=false:=by simp[hyp]
    clear hra hfz hra2 hfz2 hra3 hfz3 hb2 hbw hs2 hwr hr hr2 HLW hyp hy hgt;go_wp2_with fail;refine wp_load_run 124 _ rfl rfl HL ?_
    go_at_K
    go_wp2_with fail;go_roundw
    case rel=>exact END.out
    case measure=>simp[intOf];omega
  ·obtain rfl:k=x.loose.length:=by omega
   rw[List.take_length] at hra;have hsn:lastW pn (x.pages pn) x.loose=seen x pn:=rfl;rw[hsn] at hra;have hl:=(seen x pn).2;obtain⟨i1,hi1,hz0,hz1,hz2⟩:=hi0.out;have hRow:=(row_of_range hra hgt hl).below (Nat.le_refl _) ((Below.refl wr.heap.size wr).alloc (Nat.le_refl _) (.cells #[] 5));obtain⟨v',w3,hr9,ho9,hg9,_⟩:=run_append_row (P:=Tryz.prog) (w:=wr.alloc (.cells #[] 5)) w.heap.size 42 5 i1 _ 1 Tryz.underlying42 hi1 hz0 hz1 hz2 rfl (own_made .u8 wr 5 [] rfl hbw.size (by unfold maxLen;simp)) hRow (by unfold maxLen;simp) (by simp) (by have:=hbw.size;simp;omega);have hb3:Below w.heap.size w w3:=(hbw.alloc hbw.size _).grown hg9 (by have:=hbw.size;simp;omega) (fun k hk=>by cases hk;exact hbw.size);have END:ReadPost w (seen x pn).1 0 (.returned (.tuple #[v',.int .i64 0])) w3:=⟨v',rfl,by rw[hl];simpa using ho9,hb3⟩
   have END:=Hd END;clear hra hfz hRow ho9 hg9 hb3 hbw hz0 hz1 hz2 hi1 hsn hl hgt
   go_wp2_with (at_builtin;refine wpList_append_run rfl _ _ _ _ rfl rfl rfl hr9 ?_)
   go_ret2
   exact END.out
theorem dread_any {w:World} {F:List Nat} {db M:Nat} {bs:List (Nat×List Nat)} {d:List Rg} (h:DskIn w F db M bs d) (r p:Int) :
 Calls Tryz.prog 94 #[.pointer (some ⟨db,0,none⟩),.int .i64 r,.int .i64 p] w (ReadPost w (readB d r p) (pagedE d r p)):=by
 by_cases hu:pagedE d r p=0
 ·obtain⟨i,pn,x,rfl,rfl,hx,hdn,hpn⟩:=pagedE_zero hu
  have e1:readB d i pn=(seen x pn).1:=by rw[readB,if_pos hu,atR_of hx,Int.toNat_natCast]
  rw[hu,e1];exact dread_in h i pn x hx hdn hpn
 ·have U:=paged_any h r p
  have e1:readB d r p=[]:=by rw[readB,if_neg hu]
  rw[e1];have q0:(pagedE d r p == 0)=false:=by simpa using hu
  generalize pagedE d r p=er at *;have U:Calls Tryz.prog 45 #[.pointer (some ⟨db,0,none⟩),.int .i64 r,.int .i64 p] w fun e w'=>e=.returned (.tuple #[.pointer none,.int .i64 er])∧w=w':=U.mono fun e w' ⟨h1,h2⟩=>by
   exact q742db7
  have END:=Hd (show ReadPost w [] er (.returned (.tuple #[.slice none 0 0,.int .i64 er])) w from⟨_,rfl,World.ownsRow_nil _ _ _ _,Below.refl _ _⟩);clear hu e1 h;go_enter Tryz.func94,Tryz.ntmps94;go_wp2_with fail;refine U.mono ?_;rintro e w0 ⟨rfl,rfl⟩;go_wp2_with fail
  go_ret2
  exact END.out
end Go.Proofs.YtpghlmcoajaiiaaGreatDoor
