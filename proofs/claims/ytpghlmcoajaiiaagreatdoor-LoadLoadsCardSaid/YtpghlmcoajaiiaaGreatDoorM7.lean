/- Texts that other texts of this claim lean on, one behind the other. -/
import Derived.Test.YtpghlmcoajaiiaaGreatDoorM1
import Derived.Test.YtpghlmcoajaiiaaGreatDoorM6
import Derived.Test.YtpghlmcoajaiiaaGreatDoorM4
import Derived.Test.YtpghlmcoajaiiaaGreatDoorM5
import Derived.Outline
import Derived.Maps.Own
import Derived.Maps.OwnOps
import Derived.Maps.Views
import Derived.Deep.RegionHeld3
import Derived.Laws.Append
import Derived.Laws.AppendOwn
import Derived.Test.YtpghlmcoajaiiaaGreatDoorM2
import Derived.Test.YtpghlmcoajaiiaaGreatDoorM3
set_option maxHeartbeats 20000000
set_option maxRecDepth 100000
namespace Go.Proofs.YtpghlmcoajaiiaaGreatDoor
open Go.RowKit
theorem Row.cellC {w:World} {a:Option Addr} {len cap:Nat} {l:List Int} (h:Row .i64 w a len cap l) {k:Nat} (hk:k<len) :
 ∃b off,a=some ⟨b,off,none⟩∧b<w.heap.size∧∀i,i<len→w.cell? ⟨b,off+i,none⟩=some (.int .i64 (atC l i)):=by
 rcases h.2.2.2.2 with h0|h0
 ·omega
 ·exact h0
theorem Row.lensC {k:IntKind} {w:World} {a:Option Addr} {len cap:Nat} {l:List Int} (h:Row k w a len cap l):l.length=len∧len≤cap∧cap≤9223372036854775807:=⟨h.1,h.2.1,by have:=h.2.2.1;unfold maxLen at this;omega⟩
theorem cpart_any (n:Nat) (i:Nat) (hn:n≤1000) (hi:i≤100) (w:World) :
 Calls Tryz.prog 185 #[.int .i64 (n:Int),.int .i64 (i:Int)] w fun e w'=>e=.returned (.int .i64 (min ((n:Int)-119*i) 119))∧w=w':=by
 by_cases h1:(119:Int)<(n:Int)-119*i
 ·have d1:decide ((119:Int)<(n:Int)-119*(i:Int))=true:=by simpa using h1
  have HE:=Hd (show min ((n:Int)-119*i) 119=119 by omega);go_enter Tryz.func185,Tryz.ntmps185
  go_wp2
  go_ret;exact⟨ret_int HE.out.symm,rfl⟩
 ·have d1:decide ((119:Int)<(n:Int)-119*(i:Int))=false:=by simpa using h1
  have HE:=Hd (show min ((n:Int)-119*i) 119=(n:Int)-119*i by omega);go_enter Tryz.func185,Tryz.ntmps185
  go_wp2
  go_ret;exact⟨ret_int HE.out.symm,rfl⟩
theorem chas_any {w:World} {a:Option Addr} {len cap:Nat} {l:List Int} (h:Row .i64 w a len cap l) (x:Int) :
 Calls Tryz.prog 186 #[.slice a len cap,.int .i64 x] w fun e w'=>e=.returned (.bool (decide (x∈l)))∧w=w':=by
 obtain⟨hl,hc,hm⟩:=h.lensC;have HL:=Hd hl;have HR:=Hd h;clear hl h;go_enter Tryz.func186,Tryz.ntmps186
 go_wp2
 go_loop [5] (fun s=>∃i:Nat,i≤len∧s=.int .i64 i∧∀j,j<i→atC l j≠x) (fun s=>len-(intOf s).toNat)
 case atStart=>exact⟨0,Nat.zero_le _,rfl,fun j hj=>by omega⟩
 case round=>
  obtain⟨i,hi,rfl,hall⟩:=hrel
  by_cases hlt:i<len
  ·obtain⟨b,off,rfl,hb,hcell⟩:=HR.out.cellC hlt
   have c1:=hcell i hlt
   by_cases hx:atC l i=x
   ·have HY:Hid (x∈l):=Hd (by
     rw[←hx,atC,List.getElem?_eq_getElem (by rw[HL.out];exact hlt)];exact List.getElem_mem _)
    rw[hx] at c1;have e1:(x == x)=true:=by simp
    clear hcell hall hx;go_wp2_with fail;go_ret;exact⟨ret_bool (decide_eq_true HY.out).symm,rfl⟩
   ·have HN:Hid (∀j,j<i+1→atC l j≠x):=Hd (fun j hj=>by
     by_cases hji:j=i
     ·subst hji;exact hx
     ·exact hall j (by omega))
    have e1:(atC l i == x)=false:=by simpa using hx
    clear hcell hall hx;generalize atC l i=y at *;go_wp2_with fail
    go_round
    case rel=>exact⟨i+1,hlt,by go_num,HN.out⟩
    case measure=>simp[intOf];omega
  ·obtain rfl:i=len:=by omega
   have HN:Hid (x∉l):=Hd (fun hx=>by
    obtain⟨j,hj,e⟩:=List.getElem_of_mem hx;exact hall j (by rw[←HL.out];exact hj) (by rw[atC,List.getElem?_eq_getElem hj,e];rfl))
   clear hall;go_wp2_with fail;go_ret;exact⟨ret_bool (decide_eq_false HN.out).symm,rfl⟩
end Go.Proofs.YtpghlmcoajaiiaaGreatDoor
namespace Go.Proofs.YtpghlmcoajaiiaaGreatDoor
open Go.RowKit Go.Maps
def intR (v:Value):Option (DataW Unit×List MemPlace):=match v with | .int .i64 n=>some (.lit (.int .i64 n),[])|_=>none
theorem intR_inv {v:Value} {n:Int} {ps:List MemPlace} (h:intR v=some (.lit (.int .i64 n),ps)):v=.int .i64 n:=by
 unfold intR at h
 split at h
 ·simp at h;rw[h.1]
 ·cases h
theorem elem_intsC:Tryz.prog.underlying 35=some (.slice (Tryz.prog.elem 35)):=by kernel_rfl
theorem size_intsC (w:World):(sizeOf (Tryz.prog.elem 35)).run Tryz.prog w=.ok 1 w:=by kernel_rfl
def I64 (n:Int):Prop := -9223372036854775808≤n∧n≤9223372036854775807
def CtMap (w:World) (mb n:Nat) (f:Int→Nat):Prop:=
 ∃D:DataW Unit,w.ownsMap Tryz.prog 3 intR mb n D∧IsMap D∧∀p:Int,D.atKey (.int .i64 p) (.lit (.int .i64 0))=.lit (.int .i64 (f p:Int))
theorem int_keyW:Keyed Tryz.prog 3:=int_keyed Tryz.underlying3
theorem key_intW (p:Int) (h:I64 p):keyOf Tryz.prog 3 (.int .i64 p)=some (.int .i64 p):=
 keyOf_int_mk Tryz.underlying3 (by unfold I64 at h;simp[Lit.wf,IntKind.min,IntKind.max,IntKind.signed,IntKind.bits];omega)
theorem CtMap.made (w:World):CtMap (w.alloc (.map #[] 0)) w.heap.size 0 (fun _=>0):=
 ⟨.map [],World.ownsMap_made _ _ _ _,isMap_empty,fun _=>rfl⟩
theorem CtMap.lt {w:World} {mb n:Nat} {f:Int→Nat} (h:CtMap w mb n f):mb<w.heap.size:=by
 obtain⟨D,h1,_⟩:=h;exact h1.lt
theorem zero_int (w:World):(zeroValue 3).run Tryz.prog w=.ok (.int .i64 0) w:=by kernel_rfl
theorem CtMap.lookup {w:World} {mb n:Nat} {f:Int→Nat} (h:CtMap w mb n f) (p:Int) (hp:I64 p) :
 (Instr.lookup 132 (.map (some mb)) (.int .i64 p) false).run Tryz.prog w=.ok (.int .i64 (f p:Int)) w:=by
 obtain⟨D,h1,_,h3⟩:=h;obtain⟨v,ps,hr,hv⟩:=h1.lookup int_keyW Tryz.underlying132 (zero_int w) (show intR (.int .i64 0)=some (.lit (.int .i64 0),[]) from rfl) (key_intW p hp);rw[h3] at hv;rw[hr,intR_inv hv]
theorem CtMap.update {w:World} {mb n:Nat} {f:Int→Nat} (h:CtMap w mb n f) (p:Int) (hp:I64 p) (c:Nat) (hn:n≤1000000) :
 ∃w',(Instr.mapUpdate 132 (.map (some mb)) (.int .i64 p) (.int .i64 (c:Int))).run Tryz.prog w=.ok () w'∧CtMap w' mb (n+1) (fun q=>if q=p then c else f q)∧w.grownBy w' (some mb):=by
 obtain⟨D,h1,h2,h3⟩:=h;obtain⟨w',hr,ho,hg⟩:=h1.update int_keyW Tryz.underlying132 (by unfold maxLen;omega) (key_intW p hp) (show intR (.int .i64 (c:Int))=some (.lit (.int .i64 (c:Int)),[]) from rfl);refine⟨w',hr,⟨_,ho,h2.put _ _,fun q=>?_⟩,hg⟩;dsimp only
 by_cases hq:q=p
 ·subst hq
  rw[atKey_put_same h2 (int_keyW.key (key_intW q hp)),if_pos rfl]
 ·rw[atKey_put_other (by simp;omega),h3,if_neg hq]
theorem CtMap.inc {w:World} {mb n:Nat} {L:List Int} (h:CtMap w mb n (fun q=>L.count q)) (p:Int) (hp:I64 p) (hn:n≤1000000) :
 ∃w',(Instr.mapUpdate 132 (.map (some mb)) (.int .i64 p) (.int .i64 ((L.count p:Int)+1))).run Tryz.prog w=.ok () w'∧CtMap w' mb (n+1) (fun q=>(L++[p]).count q)∧w.grownBy w' (some mb):=by
 obtain⟨w',h1,h2,h3⟩:=h.update p hp (L.count p+1) hn;refine⟨w',by rw[←h1];rfl,?_,h3⟩;have e:(fun q=>if q=p then L.count p+1 else L.count q)=fun q=>(L++[p]).count q:=by
  funext q
  rw[List.count_append]
  by_cases hq:q=p
  ·subst hq;simp
  ·rw[if_neg hq,List.count_eq_zero_of_not_mem (a:=q) (l:=[p]) (by simpa using hq)];rfl
 rw[←e];exact h2
end Go.Proofs.YtpghlmcoajaiiaaGreatDoor
namespace Go.Proofs.YtpghlmcoajaiiaaGreatDoor
open Go.RowKit Go.Maps
theorem CtMap.kept {w w':World} {mb n:Nat} {f:Int→Nat} (h:CtMap w mb n f) (hb:w'.heap[mb]? = w.heap[mb]?):CtMap w' mb n f:=by
 obtain⟨D,⟨es,c,h1,h2⟩,h3⟩:=h;exact⟨D,⟨es,c,hb.trans h1,h2⟩,h3⟩
theorem info_i64C:(Tryz.prog.info? 3).map (fun i=>(i.zero,i.size,i.bytes))=some (some (.int .i64 0),1,8):=by kernel_rfl
def Plc (B:Nat) (w:World) (pb:Nat) (L:List Int):Prop:=∃v mb n,w.heap[pb]? = some (.cells #[v,.map (some mb)] 323 (0,0))∧w.ownsRow B 3 1 v L.length (L.map (Value.int .i64))∧CtMap w mb n (fun q=>L.count q)∧n≤L.length∧B≤pb∧B≤mb∧pb≠mb∧v.ownBlock≠some pb∧v.ownBlock≠some mb
theorem Plc.below {B:Nat} {w w':World} {pb:Nat} {L:List Int} (h:Plc B w pb L) (hb:Below w.heap.size w w'):Plc B w' pb L:=by
 obtain⟨v,mb,n,h1,h2,h3,h4⟩:=h;exact⟨v,mb,n,(hb.block pb (Array.getElem?_eq_some_iff.1 h1).1).trans h1,own_below h2 (Nat.le_refl _) hb,h3.kept (hb.block mb h3.lt),h4⟩
def KeepU (w w':World):Prop:=∀(k:Nat) (c:Array Value) (t:TypeId),t≠3→t≠323→w.heap[k]? = some (Obj.cells c t (0,0))→w'.heap[k]? = some (Obj.cells c t (0,0))
theorem KeepU.refl (w:World):KeepU w w:=fun _ _ _ _ _ h=>h
theorem KeepU.own {w w':World} (h:KeepU w w') {base:Nat} {size:Nat} {v:Value} {n:Nat} {xs:List Value} (ho:w.ownsRow base 5 size v n xs):w'.ownsRow base 5 size v n xs:=
 ⟨ho.1,ho.2.imp id fun⟨g,cap,cur,e1,hg1,hh,r⟩=>⟨g,cap,cur,e1,hg1,h g _ _ (by decide) (by decide) hh,r⟩⟩
def AddPost (B:Nat) (w:World) (pb:Nat) (L:List Int) (x:Int) (e:Ending) (w':World):Prop:=
 Below B w w'∧KeepU w w'∧(if pgC x=true∧x∉L then e=.returned (.bool true)∧Plc B w' pb (L++[x]) else e=.returned (.bool false)∧w=w')
theorem add_any {B:Nat} {w:World} {pb:Nat} {L:List Int} (h:Plc B w pb L) (hL:L.length≤1000) (x:Int) (hx:I64 x) :
 Calls Tryz.prog 179 #[.pointer (some ⟨pb,0,none⟩),.int .i64 x] w (AddPost B w pb L x):=by
 obtain⟨v,mb,n,h1,h2,h3,h4,hB1,hB2,n1,n2,n3⟩:=h;have hpb:=(Array.getElem?_eq_some_iff.1 h1).1;have c0:w.cell? ⟨pb,0,none⟩=some v:=by simp[World.cell?,h1]
 have c1:w.cell? ⟨pb,1,none⟩=some (.map (some mb)):=by simp[World.cell?,h1]
 have hlk:=h3.lookup x hx
 by_cases hp:pgC x=true
 ·have hpx:=pgC_lt hp
  have d0:decide (x<2)=false:=by simp;omega
  have d1:decide (999<x)=false:=by simp;omega
  have hcm:x∈L↔0<L.count x:=List.count_pos_iff.symm;obtain⟨ct,hct⟩:∃ct,L.count x=ct:=⟨_,rfl⟩
  rw[hct] at hlk hcm
  by_cases h0:0<ct
  ·have d2:decide ((0:Int)<ct)=true:=by simp;omega
   have d2':decide (0<ct)=true:=by simpa using h0
   have HE:Hid (AddPost B w pb L x (.returned (.bool false)) w):=Hd ⟨Below.refl _ _,KeepU.refl _,by rw[if_neg (fun h=>h.2 (hcm.2 h0))];exact⟨rfl,rfl⟩⟩;clear h1 h2 h3 hct hcm hp;go_enter Tryz.func179,Tryz.ntmps179;go_wp2_with fail;go_ret;exact HE.out
  ·have d2:decide ((0:Int)<ct)=false:=by simp;omega
   have d2':decide (0<ct)=false:=by simpa using h0
   have hmem:x∉L:=fun h=>h0 (hcm.1 h)
   obtain⟨i0,hi,hz0,hz1,hz2⟩:=info_parts info_i64C;have hBw:B≤w.heap.size:=by omega
   obtain⟨v',w1,hr1,ho1,hg1,hv1⟩:=run_append_new (P:=Tryz.prog) (w:=w) B 35 3 i0 _ 1 8 Tryz.underlying35 hi hz0 hz1 hz2 rfl (by decide) h2 #[.int .i64 x] rfl (by intro u hu;simp at hu;subst hu;rfl) (by unfold maxLen;omega) (by omega) hBw;have hge:=own_ge h2;have e1:w1.heap[pb]? = some (.cells #[v,.map (some mb)] 323 (0,0)):=(hg1.block pb hpb (fun e=>n2 e.symm)).trans h1;have k0:w1.cell? ⟨pb,0,none⟩=some v:=by simp[World.cell?,e1]
   have f0:w1.frozen? ⟨pb,0,none⟩=false:=by simp[World.frozen?,e1]
   have m1:CtMap w1 mb n (fun q=>L.count q):=h3.kept (hg1.block mb h3.lt (fun e=>n3 e.symm));obtain⟨w2,hw2⟩:∃w2,w2=w1.setCell ⟨pb,0,none⟩ v':=⟨_,rfl⟩
   have e2:w2.heap[pb]? = some (.cells #[v',.map (some mb)] 323 (0,0)):=by rw[hw2,heap_setCell_at 0 _ e1];rfl
   have k1:w2.cell? ⟨pb,1,none⟩=some (.map (some mb)):=by simp[World.cell?,e2]
   have m2:CtMap w2 mb n (fun q=>L.count q):=m1.kept (by rw[hw2];exact Below.heap_setCell _ _ _ mb (fun e=>n1 e.symm));have hlk2:=m2.lookup x hx;obtain⟨w3,hu3,m3,hg3⟩:=m2.inc x hx (by omega);rw[hct] at hlk2 hu3;have n2':v'.ownBlock≠some pb:=by
    rcases hv1 with h|h
    ·rw[h];exact n2
    ·rw[h];intro e;have:=Option.some.inj e;omega
   have n3':v'.ownBlock≠some mb:=by
    have:=h3.lt
    rcases hv1 with h|h
    ·rw[h];exact n3
    ·rw[h];intro e;have:=Option.some.inj e;omega
   have ho2:w2.ownsRow B 3 1 v' (L.length+1) (L.map (Value.int .i64)++[.int .i64 x]):=by rw[hw2];exact own_set ho1 ⟨pb,0,none⟩ v' n2'
   have ho3:w3.ownsRow B 3 1 v' (L.length+1) (L.map (Value.int .i64)++[.int .i64 x]):=ho2.kept hg3 (.inr n3');have e3:w3.heap[pb]? = some (.cells #[v',.map (some mb)] 323 (0,0)):=(hg3.block pb (Array.getElem?_eq_some_iff.1 e2).1 (fun e=>n1 (Option.some.inj e))).trans e2;have hb1:Below B w w1:=(Below.refl _ _).grown hg1 hBw hge;have hb2:Below B w w2:=by rw[hw2];exact hb1.setCell hB1 _
   have hb3:Below B w w3:=hb2.grown hg3 (Nat.le_trans hBw hb2.size) (fun k e=>by cases e;exact hB2);have hku:KeepU w w3:=by
    intro k c t ht1 ht2 hk;have hkl:=(Array.getElem?_eq_some_iff.1 hk).1;have j1:w1.heap[k]? = some (.cells c t (0,0)):=by
     rw[hg1.block k hkl (fun e=>?_)]
     ·exact hk
     ·rcases h2.2 with⟨rfl,_⟩|⟨g,cap,cur,rfl,_,hh,_⟩
      ·cases e
      ·cases e
       rw[hh] at hk;cases hk;exact absurd rfl ht1
    have j2:w2.heap[k]? = some (.cells c t (0,0)):=by
     rw[hw2,Below.heap_setCell _ _ _ k (fun e=>by
      have e':k=pb:=e;subst e';rw[h1] at hk;cases hk;exact absurd rfl ht2)]
     exact j1
    rw[hg3.block k (Array.getElem?_eq_some_iff.1 j2).1 (fun e=>?_)]
    ·exact j2
    ·cases e
     obtain⟨_,⟨es,cl,hm,_⟩,_⟩:=m2;rw[hm] at j2;cases j2
   have HE:Hid (AddPost B w pb L x (.returned (.bool true)) w3):=Hd ⟨hb3,hku,by
    rw[if_pos ⟨hp,hmem⟩];exact⟨rfl,v',mb,n+1,e3,by rw[List.length_append,List.map_append];exact ho3,m3,by simp;omega,hB1,hB2,n1,n2',n3'⟩⟩
   have HW2:=Hd hw2;obtain⟨av,cv,rfl,_⟩:=own_slice h2;obtain⟨av',cv',rfl,_⟩:=own_slice ho1;rw[hw2] at k1 hlk2 hu3;clear h1 h2 h3 hct hcm hp hpx hmem ho1 hg1 hv1 hge e1 m1 e2 m2 m3 hg3 n2' n3' ho2 ho3 e3 hb1 hb2 hb3 hku hw2 hi hz0 hz1 hz2;go_enter Tryz.func179,Tryz.ntmps179
   go_wp2_with (at_builtin;refine wpList_append_run rfl _ _ _ _ rfl rfl rfl hr1 ?_)
   go_ret;exact HE.out
 ·have HE:Hid (AddPost B w pb L x (.returned (.bool false)) w):=Hd ⟨Below.refl _ _,KeepU.refl _,by rw[if_neg (fun h=>hp h.1)];exact⟨rfl,rfl⟩⟩
  have hpx:x<2∨999<x:=by
   unfold pgC at hp;simp at hp;omega
  clear h1 h2 h3 hp
  by_cases h2:x<2
  ·have d0:decide (x<2)=true:=by simpa using h2
   go_enter Tryz.func179,Tryz.ntmps179;go_wp2_with fail;go_ret;exact HE.out
  ·have d0:decide (x<2)=false:=by simpa using h2
   have d1:decide (999<x)=true:=by simp;omega
   go_enter Tryz.func179,Tryz.ntmps179;go_wp2_with fail;go_ret;exact HE.out
theorem plc_new (w:World) (first:Int) (hf:I64 first):∃w2,(Instr.mapUpdate 132 (.map (some w.heap.size)) (.int .i64 first) (.int .i64 1)).run Tryz.prog (w.alloc (.map #[] 0))=.ok () w2 ∧
 Plc w.heap.size ((w2.alloc (.cells #[.int .i64 first] 3)).alloc (.cells #[.slice (some ⟨w2.heap.size,0,none⟩) 1 1,.map (some w.heap.size)] 323)) (w2.heap.size+1) [first]∧Below w.heap.size w ((w2.alloc (.cells #[.int .i64 first] 3)).alloc (.cells #[.slice (some ⟨w2.heap.size,0,none⟩) 1 1,.map (some w.heap.size)] 323)):=by
 have m0:CtMap (w.alloc (.map #[] 0)) w.heap.size 0 (fun q=>([]:List Int).count q):=by simpa using CtMap.made w
 obtain⟨w2,hu,m2,hg2⟩:=m0.inc first hf (by omega)
 have hu':(Instr.mapUpdate 132 (.map (some w.heap.size)) (.int .i64 first) (.int .i64 1)).run Tryz.prog (w.alloc (.map #[] 0))=.ok () w2:=hu;have hb2:Below w.heap.size w w2:=((Below.refl _ _).alloc (Nat.le_refl _) _).grown hg2 (by simp) (fun k e=>by cases e;exact Nat.le_refl _);have hs2:=hg2.size;have hsz:(w.alloc (.map #[] 0)).heap.size=w.heap.size+1:=by simp
 obtain⟨w3,hw3⟩:∃w3,w3=w2.alloc (.cells #[.int .i64 first] 3):=⟨_,rfl⟩
 have ho3:w3.ownsRow w.heap.size 3 1 (.slice (some ⟨w2.heap.size,0,none⟩) 1 1) 1 [.int .i64 first]:=by
  rw[hw3];exact own_made .i64 w2 3 [first] rfl (by omega) (by unfold maxLen;simp)
 have h3s:w3.heap.size=w2.heap.size+1:=by rw[hw3];simp
 have hb3:Below w.heap.size w w3:=by rw[hw3];exact hb2.alloc hb2.size _
 have m3:CtMap w3 w.heap.size (0+1) (fun q=>([]++[first]).count q):=m2.kept (by rw[hw3];exact Below.heap_alloc _ _ _ (by omega));have hA:Below w3.heap.size w3 (w3.alloc (.cells #[.slice (some ⟨w2.heap.size,0,none⟩) 1 1,.map (some w.heap.size)] 323)):=(Below.refl _ _).alloc (Nat.le_refl _) _;refine⟨w2,hu',?_,?_⟩
 ·rw[←hw3]
  refine⟨.slice (some ⟨w2.heap.size,0,none⟩) 1 1,w.heap.size,1,?_,own_below ho3 (Nat.le_refl _) hA,m3.kept (hA.block _ m3.lt),by simp,by omega,Nat.le_refl _,by omega,fun e=>?_,fun e=>?_⟩
  ·rw[←h3s];exact World.alloc_heap_new _ _
  ·have:=Option.some.inj e
   simp at this
  ·have:=Option.some.inj e
   simp at this;omega
 ·rw[←hw3];exact below_then hb3 hA
end Go.Proofs.YtpghlmcoajaiiaaGreatDoor
namespace Go.Proofs.YtpghlmcoajaiiaaGreatDoor
open Go.RowKit Go.Maps
end Go.Proofs.YtpghlmcoajaiiaaGreatDoor
namespace Go.Proofs.YtpghlmcoajaiiaaGreatDoor
open Go.RowKit
open Go.RowKit
def oneFEC (d:List Rg) (r p:Int):Int:=if pagedE d r p≠0 then pagedE d r p else oneEC (readB d r p)
def oneFNC (d:List Rg) (r p:Int):Int:=if pagedE d r p≠0 then 0 else oneNC (readB d r p)
def oneFPC (d:List Rg) (r p:Int):List UInt8:=if pagedE d r p≠0 then [] else onePC (readB d r p)
def OneC (w:World) (E N:Int) (l:List UInt8) (e:Ending) (w':World):Prop:=
 ∃v,e=.returned (.tuple #[.int .i64 N,v,.int .i64 E])∧w'.ownsRow w.heap.size 5 1 v l.length ((toI l).map (Value.int .u8))∧Below w.heap.size w w'
theorem oneC_nil {w w':World} {E:Int} (h:Below w.heap.size w w'):OneC w E 0 [] (.returned (.tuple #[.int .i64 0,.slice none 0 0,.int .i64 E])) w':=⟨_,rfl,World.ownsRow_nil _ _ _ _,h⟩
theorem neqC_true {E:Int} (h:E≠0):(E != 0)=true:=by simpa using h
theorem cone_page {w:World} {B da M:Nat} {d:List Rg} (h:One B w da M d) (r p:Int) (hE:pagedE d r p≠0) :
 Calls Tryz.prog 178 #[.pointer (some ⟨da,0,none⟩),.int .i64 r,.int .i64 p] w (OneC w (oneFEC d r p) (oneFNC d r p) (oneFPC d r p)):=by
 have hr:=read_o h r p;have HF:=Hd (show oneFEC d r p=pagedE d r p by rw[oneFEC,if_pos hE]);have HN:=Hd (show oneFNC d r p=0 by rw[oneFNC,if_pos hE]);have HL:=Hd (show oneFPC d r p=[] by rw[oneFPC,if_pos hE]);have hb:=neqC_true hE;generalize pagedE d r p=E at *;clear hE;go_enter Tryz.func178,Tryz.ntmps178;go_wp2_with fail;refine hr.mono ?_;rintro e w1 ⟨v1,rfl,ho1,hb1⟩;clear hr;go_wp2_with fail
 go_ret3
 rw[HF.out,HN.out,HL.out];exact oneC_nil hb1
theorem cone_bad {w:World} {B da M:Nat} {d:List Rg} (h:One B w da M d) (hh:Half w) (r p:Int) (hE:pagedE d r p=0) (hU:unpE (readB d r p)≠0) :
 Calls Tryz.prog 178 #[.pointer (some ⟨da,0,none⟩),.int .i64 r,.int .i64 p] w (OneC w (oneFEC d r p) (oneFNC d r p) (oneFPC d r p)):=by
 have hr:=read_o h r p;rw[hE] at hr;have he:oneEC (readB d r p)=unpE (readB d r p):=by rw[oneEC,if_pos hU]
 have HF:=Hd (show oneFEC d r p=unpE (readB d r p) by rw[oneFEC,if_neg (by rw[hE];simp),he]);have HN:=Hd (show oneFNC d r p=0 by rw[oneFNC,if_neg (by rw[hE];simp),oneNC,he,if_neg hU]);have HL:=Hd (show oneFPC d r p=[] by rw[oneFPC,if_neg (by rw[hE];simp),onePC,he,if_neg hU]);have hb:=neqC_true hU;clear he;generalize readB d r p=b at *;generalize hUE:unpE b=E at *;have HUE:=Hd hUE;clear hE hU hUE;go_enter Tryz.func178,Tryz.ntmps178;go_wp2_with fail;refine hr.mono ?_;rintro e w1 ⟨v1,rfl,ho1,hb1⟩;obtain⟨a1,c1,rfl,hbs1⟩:=Bs.of_own ho1;have hu:=unpack_any a1 b.length c1 b w1 hbs1 (hh.below (Nat.le_refl _) hb1);rw[HUE.out] at hu;clear hr ho1 hbs1;go_wp2_with fail;refine hu.mono ?_;rintro e w2 ⟨v2,rfl,ho2,hb2⟩;have hB:=below_then hb1 hb2;clear hu ho2 hb1 hb2;go_wp2_with fail
 go_ret3
 rw[HF.out,HN.out,HL.out];exact oneC_nil hB
theorem cone_form {w:World} {B da M:Nat} {d:List Rg} (h:One B w da M d) (hh:Half w) (r p:Int) (hE:pagedE d r p=0) (hU:unpE (readB d r p)=0) (hC:unpK (readB d r p)≠3∨(unpL (readB d r p)).length≠1) :
 Calls Tryz.prog 178 #[.pointer (some ⟨da,0,none⟩),.int .i64 r,.int .i64 p] w (OneC w (oneFEC d r p) (oneFNC d r p) (oneFPC d r p)):=by
 have hr:=read_o h r p;rw[hE] at hr;have he:oneEC (readB d r p)=11:=by rw[oneEC,if_neg (by rw[hU];simp),if_pos hC]
 have HF:=Hd (show oneFEC d r p=11 by rw[oneFEC,if_neg (by rw[hE];simp),he]);have HN:=Hd (show oneFNC d r p=0 by rw[oneFNC,if_neg (by rw[hE];simp),oneNC,he];rfl);have HL:=Hd (show oneFPC d r p=[] by rw[oneFPC,if_neg (by rw[hE];simp),onePC,he];rfl);clear he;generalize readB d r p=b at *;have HUE:=Hd hU;clear hE hU;have main:∀(w1:World) (a1:Option Addr) (c1:Nat),Bs w1 a1 b.length c1 b→Below w.heap.size w w1→Calls Tryz.prog 138 #[.slice a1 b.length c1] w1 (UnpPost w1 (unpK b) (unpL b) 0):=fun w1 a1 c1 hbs hb=>by
  have hu:=unpack_any a1 b.length c1 b w1 hbs (hh.below (Nat.le_refl _) hb)
  rwa [HUE.out] at hu
 generalize unpK b=k at *;generalize unpL b=L at *
 by_cases hk:k=3
 ·subst hk
  have hl:L.length≠1:=by
   rcases hC with h|h
   ·exact absurd rfl h
   ·exact h
  have d1:((L.length:Int) == 1)=false:=by rw[beq_eq_false_iff_ne];omega
  have d2:((L.length:Int) != 1)=true:=by rw[bne_iff_ne];omega
  clear hC;have m3eabde:=trivial;exact q8bfa11
 ·have d1:((k.toNat:Int) == 3)=false:=by
   rw[beq_eq_false_iff_ne];intro e;exact hk (UInt8.toNat_inj.1 (by show k.toNat=3;omega))
  have d2:((k.toNat:Int) != 3)=true:=by rw[bne_iff_ne];exact beq_eq_false_iff_ne.1 d1
  clear hC;have mf7f6b9:=trivial;exact q8bfa11
theorem taken_cell (C:List UInt8) (hC:C.length≤128):∃(x:Nat) (s1:TSt) (P:List UInt8) (s2:TSt),tNum ⟨C,0⟩ 2=(x,s1)∧tRest s1=(P,s2)∧x<65536∧s1.l.length≤128∧((C.length<2∧x=0∧P=[]∧s2.e=10)∨(2≤C.length∧x=beVal (C.take 2)∧P=C.drop 2∧s2.e=0)):=by
 by_cases h:C.length<2
 ·refine⟨0,⟨C,10⟩,[],⟨C,10⟩,?_,?_,by omega,hC,.inl ⟨h,rfl,rfl,rfl⟩⟩
  ·rw[tNum,if_neg (by simp)]
   have:takeF ⟨C,0⟩ (2:Int).toNat=([],⟨C,10⟩):=by rw[takeF,if_neg (by simp),if_pos (by simpa using h)]
   rw[this];rfl
  ·rw[tRest,takeF,if_pos (by simp)]
 ·refine⟨beVal (C.take 2),⟨C.drop 2,0⟩,C.drop 2,⟨[],0⟩,?_,?_,?_,by simp;omega,.inr ⟨by omega,rfl,rfl,rfl⟩⟩
  ·rw[tNum,if_neg (by simp)]
   have:takeF ⟨C,0⟩ (2:Int).toNat=(C.take 2,⟨C.drop 2,0⟩):=by rw[takeF,if_neg (by simp),if_neg (by simpa using h)];rfl
   rw[this]
  ·rw[tRest,takeF,if_neg (by simp),if_neg (by simp)]
   simp;exact⟨List.take_of_length_le (by simp),by omega⟩
  ·have h1:=beVal_lt (C.take 2)
   have h2:(C.take 2).length≤2:=by simp;omega
   have h3:(256:Nat) ^ (C.take 2).length≤256 ^ 2:=Nat.pow_le_pow_right (by omega) h2;omega
theorem unpLC_len (b:List UInt8) (i:Nat):((unpL b)[i]?.getD []).length≤128:=by
 unfold unpL
 split
 ·rename_i h0
  have hb:b.length=128:=by
   unfold unpE at h0
   split at h0
   ·cases h0
   ·omega
  cases hx:(cutS b (min (numS b) 122))[i]? with
  | none=>simp
  | some c=>
   have hm:=List.mem_of_getElem? hx;unfold cutS at hm;obtain⟨k,_,rfl⟩:=List.mem_map.1 hm;simp[cellS];omega
 ·simp
theorem cone_go {w:World} {B da M:Nat} {d:List Rg} (h:One B w da M d) (hh:Half w) (r p:Int) (hE:pagedE d r p=0) (hU:unpE (readB d r p)=0) (hk:unpK (readB d r p)=3) (hl:(unpL (readB d r p)).length=1) :
 Calls Tryz.prog 178 #[.pointer (some ⟨da,0,none⟩),.int .i64 r,.int .i64 p] w (OneC w (oneFEC d r p) (oneFNC d r p) (oneFPC d r p)):=by
 have hr:=read_o h r p;rw[hE] at hr;have hE1:oneEC (readB d r p)=if ((unpL (readB d r p))[0]?.getD []).length<2 then 10 else 0:=by rw[oneEC,if_neg (by rw[hU];simp),if_neg (by rw[hk,hl];simp)]
 have HF0:oneFEC d r p=if ((unpL (readB d r p))[0]?.getD []).length<2 then 10 else 0:=by rw[oneFEC,if_neg (by rw[hE];simp),hE1]
 have HN0:oneFNC d r p=if ((unpL (readB d r p))[0]?.getD []).length<2 then 0 else (beVal (((unpL (readB d r p))[0]?.getD []).take 2):Int):=by
  rw[oneFNC,if_neg (by rw[hE];simp),oneNC,hE1]
  split<;>simp
 have HL0:oneFPC d r p=if ((unpL (readB d r p))[0]?.getD []).length<2 then [] else ((unpL (readB d r p))[0]?.getD []).drop 2:=by
  rw[oneFPC,if_neg (by rw[hE];simp),onePC,hE1]
  split<;>simp
 have hC128:=unpLC_len (readB d r p) 0;generalize readB d r p=b at *;have HUE:=Hd hU;have HK:=Hd hk;have main:∀(w1:World) (a1:Option Addr) (c1:Nat),Bs w1 a1 b.length c1 b→Below w.heap.size w w1→Calls Tryz.prog 138 #[.slice a1 b.length c1] w1 (UnpPost w1 3 (unpL b) 0):=fun w1 a1 c1 hbs hb=>by
  have hu:=unpack_any a1 b.length c1 b w1 hbs (hh.below (Nat.le_refl _) hb)
  rwa [HUE.out,HK.out] at hu
 clear hE hU hk hE1;generalize unpL b=L at *;obtain⟨C,hC⟩:∃C,L[0]?.getD []=C:=⟨_,rfl⟩
 rw[hC] at HF0 HN0 HL0 hC128;obtain⟨x,s1,P,s2,t1,t2,hx,hs1,hcase⟩:=taken_cell C hC128;have hEND:oneFEC d r p=s2.e∧oneFNC d r p=(x:Int)∧oneFPC d r p=P:=by
  rcases hcase with⟨g1,g2,g3,g4⟩|⟨g1,g2,g3,g4⟩
  ·rw[HF0,HN0,HL0,if_pos g1,if_pos g1,if_pos g1,g2,g3,g4];exact⟨rfl,rfl,rfl⟩
  ·rw[HF0,HN0,HL0,if_neg (by omega),if_neg (by omega),if_neg (by omega),g2,g3,g4];exact⟨rfl,rfl,rfl⟩
 have HEND:=Hd hEND;have HC:=Hd hC;have HLL:=Hd hl;have hN:∀t W,Tk W t ⟨C,0⟩→Calls Tryz.prog 57 #[.pointer (some ⟨t,0,none⟩),.int .i64 2] W (TkPost W t (fun _ v=>v=.int .u64 (x:Int)) s1):=fun t W hW=>by
  have:=tNum_any t ⟨C,0⟩ 2 W hW (by simp only;omega);rwa [t1] at this
 have hRs:∀t W,Tk W t s1→Calls Tryz.prog 199 #[.pointer (some ⟨t,0,none⟩)] W (TkPost W t (fun w' v=>w'.ownsRow W.heap.size 5 1 v P.length ((toI P).map (Value.int .u8))) s2):=fun t W hW=>by
  have:=tRest_any t s1 W hW (by omega);rwa [t2] at this
 have HCL:=Hd hC128;clear hcase HF0 HN0 HL0 hEND hC hl t1 t2 hC128 hs1;have m8f50cf:=trivial;exact q8bfa11
theorem cone_any {w:World} {B da M:Nat} {d:List Rg} (h:One B w da M d) (hh:Half w) (r p:Int) :
 Calls Tryz.prog 178 #[.pointer (some ⟨da,0,none⟩),.int .i64 r,.int .i64 p] w (OneC w (oneFEC d r p) (oneFNC d r p) (oneFPC d r p)):=by
 by_cases hE:pagedE d r p=0
 ·by_cases hU:unpE (readB d r p)=0
  ·by_cases hC:unpK (readB d r p)≠3∨(unpL (readB d r p)).length≠1
   ·exact cone_form h hh r p hE hU hC
   ·simp only[not_or,ne_eq,Decidable.not_not] at hC
    exact cone_go h hh r p hE hU hC.1 hC.2
  ·exact cone_bad h hh r p hE hU
 ·exact cone_page h r p hE
open Go.RowKit
def rdC (d:List Rg) (r:Int) (p:Int):Int×Int×List UInt8:=(oneFEC d r p,oneFNC d r p,oneFPC d r p)
def getDC (d:List Rg) (r first size:Int):List UInt8×List Int×Int:=getC (rdC d r) first size
theorem RegAt.oneC {d:List Rg} {r n:Nat} {f:Nat→List UInt8} (h:RegAt d r n f) {p:Int} (hp:0≤p∧p<n):rdC d r p=(oneEC (f p.toNat),oneNC (f p.toNat),onePC (f p.toNat)):=by
 have he:=h.paged p;rw[if_pos hp] at he;unfold rdC oneFEC oneFNC oneFPC;rw[if_neg (by rw[he];simp),if_neg (by rw[he];simp),if_neg (by rw[he];simp),h.read hp]
theorem putC_one {v:List UInt8} {at_:List Int} (h:putOkC v at_=true) (i:Nat):oneEC (pageC v at_ i)=0∧oneNC (pageC v at_ i)=nextC at_ i∧onePC (pageC v at_ i)=partC v i:=
 oneC_page v at_ i (nextC_lt (putC_parts h).2.2 i)
theorem gotC_back {v:List UInt8} {at_:List Int} (h:putOkC v at_=true) {d:List Rg} {r n:Nat} {f:Nat→List UInt8} (hd:RegAt d r n f) (hn:∀i,i<at_.length→atC at_ i<n) (hf:∀i,i<at_.length→f (atC at_ i).toNat=pageC v at_ i) :
 getDC d r (atC at_ 0) v.length=(v,at_,0):=by
 obtain⟨h1,h2,h3⟩:=putC_parts h;have h4:=needC_le v.length;have h0:0<at_.length:=by omega
 have:=getC_back h (rdC d r) (fun j hj=>by
  have hp:=pgC_lt (aptC_at h3 hj).1;rw[hd.oneC ⟨by omega,hn j hj⟩,hf j hj,(putC_one h j).1,(putC_one h j).2.1,(putC_one h j).2.2]) at_.length 0 rfl h0 4 (by omega)
 have ht:at_.take 1=[atC at_ 0]:=by rw[List.take_succ_eq_append_getElem h0];simp[atC,h0]
 unfold getDC getC;rw[if_neg h1];simpa[ht] using this
theorem pageC_len (v:List UInt8) (at_:List Int) (i:Nat):(pageC v at_ i).length=128:=by
 have:=pageC_fits v at_ i;simp only[fits,Bool.and_eq_true,decide_eq_true_eq] at this;exact pageOf_length 3 [cellC v at_ i] this.2
def sumI (l:List Int):Int:=l.foldl (fun a b=>a+b) 0
theorem foldl_add (l:List Int) (a:Int):l.foldl (fun a b=>a+b) a=a+l.foldl (fun a b=>a+b) 0:=by
 induction l generalizing a with
 | nil=>simp
 | cons x l ih=>simp only[List.foldl_cons];rw[ih,ih (0+x)];omega
theorem sumI_nil:sumI []=0:=rfl
theorem sumI_cons (x:Int) (l:List Int):sumI (x::l)=x+sumI l:=by
 simp only[sumI,List.foldl_cons];rw[foldl_add];omega
theorem sumI_append (l m:List Int):sumI (l++m)=sumI l+sumI m:=by
 induction l with
 | nil=>simp[sumI_nil]
 | cons x l ih=>simp only[List.cons_append,sumI_cons,ih];omega
theorem sumI_take_succ (l:List Int) (k:Nat) (h:k<l.length):sumI (l.take (k+1))=sumI (l.take k)+l[k]?.getD 0:=by
 rw[List.take_add_one,sumI_append];simp[h,sumI_cons,sumI_nil]
theorem sumI_split (l:List Int) (k:Nat):sumI l=sumI (l.take k)+sumI (l.drop k):=by
 rw[←sumI_append,List.take_append_drop]
def neighF (m k:Int):Int:=if k+1<m then k+1 else k-1
def Small (l:List Int):Prop:=l.length≤1000∧∀x∈l,0≤x∧x≤1000
theorem Small.take {l:List Int} (h:Small l) (k:Nat):Small (l.take k):=⟨by have:=List.length_take_le k l;simp;have:=h.1;omega,fun x hx=>h.2 x (List.mem_of_mem_take hx)⟩
theorem Small.drop {l:List Int} (h:Small l) (k:Nat):Small (l.drop k):=⟨by have:=h.1;simp;omega,fun x hx=>h.2 x (List.mem_of_mem_drop hx)⟩
theorem sumI_bd (l:List Int) (h:∀x∈l,0≤x∧x≤1000):0≤sumI l∧sumI l≤1000*l.length:=by
 exact q639ae9
theorem Small.bd {l:List Int} (h:Small l):0≤sumI l∧sumI l≤1000000:=by
 have h1:=sumI_bd l h.2;have:=h.1;omega
theorem Small.get {l:List Int} (h:Small l) (k:Nat):0≤l[k]?.getD 0∧l[k]?.getD 0≤1000:=by
 cases e:l[k]? with
 | none=>simp
 | some x=>simpa using h.2 x (List.mem_of_getElem? e)
def worse (l:List Int) (k:Nat):Int:=max (sumI (l.take k)) (sumI (l.drop k))
def better (p x:Int×Int):Int×Int:=if x.2<p.1 then (x.2,x.1) else p
def foldBest (l:List Int) (pre:List (Int×Int)):Int×Int:=pre.foldl better (sumI l+1,0)
theorem foldBest_snoc (l:List Int) (pre:List (Int×Int)) (x:Int×Int):foldBest l (pre++[x])=better (foldBest l pre) x:=by simp[foldBest]
def bestTo (l:List Int) (n:Nat):Int×Int:=foldBest l ((List.range n).map fun k:Nat=>((k:Int)+1,worse l (k+1)))
theorem bestTo_zero (l:List Int):bestTo l 0=(sumI l+1,0):=rfl
theorem bestTo_succ (l:List Int) (n:Nat):bestTo l (n+1)=better (bestTo l n) ((n:Int)+1,worse l (n+1)):=by
 simp[bestTo,List.range_succ,foldBest_snoc]
def atF (l:List Int):Int:=if sumI l≤122 then 0 else (bestTo l (l.length-1)).2
theorem worse_one_le {l:List Int} (h:Small l):worse l 1≤sumI l:=by
 have e:=sumI_split l 1;have h1:=(h.take 1).bd;have h2:=(h.drop 1).bd;unfold worse;omega
theorem bestTo_pos {l:List Int} (h:Small l) (n:Nat):∃m:Nat,1≤m∧m≤n+1∧bestTo l (n+1)=(worse l m,(m:Int)):=by
 induction n with
 | zero=>
  refine⟨1,by omega,by omega,?_⟩;have:=worse_one_le h;rw[bestTo_succ,bestTo_zero,better,if_pos (by simp;omega)];simp
 | succ n ih=>
  obtain⟨m,h1,h2,e⟩:=ih;rw[bestTo_succ (n:=n+1),e,better]
  by_cases hlt:worse l (n+1+1)<worse l m
  ·rw[if_pos (by simpa using hlt)];exact⟨n+1+1,by omega,by omega,by simp⟩
  ·rw[if_neg (by simpa using hlt)];exact⟨m,h1,by omega,rfl⟩
theorem worse_lo {l:List Int} (k:Nat):sumI l-worse l k≤sumI (l.take k)∧sumI l-worse l k≤sumI (l.drop k)∧sumI (l.take k)≤worse l k∧sumI (l.drop k)≤worse l k∧(worse l k=sumI (l.take k)∨worse l k=sumI l-sumI (l.take k)):=by
 have e:=sumI_split l k;unfold worse;omega
theorem bestTo_least {l:List Int} (h:Small l) (n:Nat):∃m:Nat,1≤m∧m≤n+1∧bestTo l (n+1)=(worse l m,(m:Int)) ∧
 ∀k,1≤k→k≤n+1→worse l m≤worse l k∧(worse l k=worse l m→m≤k):=by
 induction n with
 | zero=>
  obtain⟨m,h1,h2,e⟩:=bestTo_pos h 0;exact⟨m,h1,h2,e,fun k a b=>by
   obtain rfl:k=m:=by omega
   omega⟩
 | succ n ih=>
  obtain⟨m,h1,h2,e,hl⟩:=ih;rw[bestTo_succ (n:=n+1),e,better]
  by_cases hlt:worse l (n+1+1)<worse l m
  ·rw[if_pos (by simpa using hlt)]
   refine⟨n+1+1,by omega,by omega,by simp,fun k a b=>?_⟩
   by_cases e:k=n+1+1
   ·subst e;omega
   ·have:=hl k a (by omega);omega
  ·rw[if_neg (by simpa using hlt)]
   refine⟨m,h1,by omega,rfl,fun k a b=>?_⟩
   by_cases e:k=n+1+1
   ·subst e;omega
   ·exact hl k a (by omega)
theorem atF_cases {l:List Int} (h:Small l):(atF l=0∧(sumI l≤122∨l.length<2)) ∨
 (122<sumI l∧∃m:Nat,1≤m∧m<l.length∧atF l=(m:Int)∧∀k,1≤k→k<l.length→worse l m≤worse l k∧(worse l k=worse l m→m≤k)):=by
 by_cases hle:sumI l≤122
 ·exact .inl ⟨by simp[atF,hle],.inl hle⟩
 ·by_cases h2:l.length<2
  ·refine .inl ⟨?_,.inr h2⟩
   have e:l.length-1=0:=by omega
   simp[atF,hle,e,bestTo_zero]
  ·obtain⟨n,hn⟩:∃n,l.length=n+2:=⟨l.length-2,by omega⟩
   obtain⟨m,h1,h3,e,hl⟩:=bestTo_least h n;refine .inr ⟨by omega,m,h1,by omega,?_,fun k a b=>hl k a (by omega)⟩;have:l.length-1=n+1:=by omega
   simp[atF,hle,this,e]
theorem sumI_take_all (l:List Int):sumI (l.take l.length)=sumI l:=by rw[List.take_length]
theorem first_half (l:List Int) (_h:Small l) (hpos:0<sumI l):∃k,k<l.length∧2*sumI (l.take k)<sumI l∧sumI l≤2*sumI (l.take (k+1)):=by
 have key:∀n,n≤l.length→sumI l≤2*sumI (l.take n)→∃k,k<n∧2*sumI (l.take k)<sumI l∧sumI l≤2*sumI (l.take (k+1)):=by
  intro n
  induction n with
  | zero=>intro _ h0;simp[sumI_nil] at h0;omega
  | succ n ih=>
   intro hn h0
   by_cases hc:sumI l≤2*sumI (l.take n)
   ·obtain⟨k,a,b,c⟩:=ih (by omega) hc
    exact⟨k,by omega,b,c⟩
   ·exact⟨n,by omega,by omega,h0⟩
 exact key l.length (Nat.le_refl _) (by rw[sumI_take_all];omega)
structure Tv where
 data:List UInt8
 pages:List Int
inductive Tr where
 | leaf (page:Int) (l:List (List UInt8×Tv))
 | node (page:Int) (l:List (List UInt8×Tr))
def Tr.page:Tr→Int
 | .leaf p _=>p
 | .node p _=>p
def Tr.isLeaf:Tr→Bool
 | .leaf _ _=>true
 | .node _ _=>false
def keysOf {α:Type} (l:List (List UInt8×α)):List (List UInt8):=l.map (·.1)
def Tr.keys:Tr→List (List UInt8)
 | .leaf _ l=>keysOf l
 | .node _ l=>keysOf l
def Tr.zero:Tr:=.leaf 0 []
def vSz (v:Tv):Nat:=if v.data.length≤16 then v.data.length else 4
def sizesT:Tr→List Int
 | .leaf _ l=>l.map fun c=>((3+vSz c.2+c.1.length:Nat):Int)
 | .node _ l=>l.map fun c=>((4+c.1.length:Nat):Int)
def sumT (t:Tr):Int:=sumI (sizesT t)
def lowT (t:Tr):Bool:=decide (sumT t<30)
def keyAt {α:Type} (l:List (List UInt8×α)) (k:Nat):List UInt8:=(l[k]?.map (·.1)).getD []
def kidAt (l:List (List UInt8×Tr)) (k:Nat):Tr:=(l[k]?.map (·.2)).getD Tr.zero
def wayD (ks:List (List UInt8)) (key:List UInt8):Nat→Nat
 | 0=>0
 | n+1=>if key<ks[n+1]?.getD [] then wayD ks key n else n+1
def wayF (ks:List (List UInt8)) (key:List UInt8):Nat:=wayD ks key (ks.length-1)
def firstK {α:Type} (key:List UInt8):List (List UInt8×α)→List (List UInt8×α)
 | []=>[]
 | c::r=>(key,c.2)::r
def partT (at_:Nat):Tr→Tr×Tr×List UInt8
 | .leaf _ l=>(.leaf 0 (l.take at_),.leaf 0 (l.drop at_),keyAt l at_)
 | .node _ l=>(.node 0 (l.take at_),.node 0 (firstK [] (l.drop at_)),keyAt l at_)
def splitT (l:List (List UInt8×Tr)) (k:Nat):Option (List (List UInt8×Tr)):=
 if atF (sizesT (kidAt l k))=0 then none
 else some (l.take k++((keyAt l k,(partT (atF (sizesT (kidAt l k))).toNat (kidAt l k)).1)::((partT (atF (sizesT (kidAt l k))).toNat (kidAt l k)).2.2,(partT (atF (sizesT (kidAt l k))).toNat (kidAt l k)).2.1)::l.drop (k+1)))
def joinT (key:List UInt8):Tr→Tr→Tr
 | .leaf _ l,.leaf _ m=>.leaf 0 (l++m)
 | .node _ l,.node _ m=>.node 0 (l++firstK key m)
 | a,_=>a
def joinAt (n k:Nat):Nat:=if k+1<n then k else k-1
def joined (l:List (List UInt8×Tr)) (j:Nat):List (List UInt8×Tr):=
 l.take j++((keyAt l j,joinT (keyAt l (j+1)) (kidAt l j) (kidAt l (j+1)))::l.drop (j+2))
def mendT (p:Int) (l:List (List UInt8×Tr)) (k:Nat):Tr:=
 match splitT l k with
 | some m=>.node 0 m
 | none=>if lowT (kidAt l k)=false∨l.length<2 then .node p l
  else match splitT (joined l (joinAt l.length k)) (joinAt l.length k) with
   | some m=>.node 0 m
   | none=>.node 0 (joined l (joinAt l.length k))
def topT:Nat→Tr→Tr
 | 0,t=>t
 | n+1,.node p l=>if l.length=1 then topT n (kidAt l 0) else if atF (sizesT (.node p l))=0 then .node p l else mendT 0 [([],.node p l)] 0
 | _+1,.leaf p l=>if atF (sizesT (.leaf p l))=0 then .leaf p l else mendT 0 [([],.leaf p l)] 0
def putL (key:List UInt8) (v:Tv):List (List UInt8×Tv)→List (List UInt8×Tv)
 | []=>[(key,v)]
 | c::r=>if c.1<key then c::putL key v r else if c.1=key then (key,v)::r else (key,v)::c::r
def putT:Nat→Tr→List UInt8→Tv→Tr
 | 0,t,_,_=>t
 | _+1,.leaf _ l,key,v=>.leaf 0 (putL key v l)
 | n+1,.node _ l,key,v=>mendT 0 (l.set (wayF (keysOf l) key) (keyAt l (wayF (keysOf l) key),putT n (kidAt l (wayF (keysOf l) key)) key v)) (wayF (keysOf l) key)
def entsT:Nat→Tr→List (List UInt8×Tv)
 | 0,_=>[]
 | _+1,.leaf _ l=>l
 | n+1,.node _ l=>l.flatMap fun c=>entsT n c.2
theorem klt_irrefl (a:List UInt8):¬a<a:=List.lt_irrefl a
theorem klt_trans {a b c:List UInt8} (h:a<b) (k:b<c):a<c:=List.lt_trans h k
theorem kle_lt {a b c:List UInt8} (h:¬b<a) (k:b<c):a<c:=List.lt_of_le_of_lt (show a≤b from h) k
theorem klt_le {a b c:List UInt8} (h:a<b) (k:¬c<b):a<c:=by
 by_cases e:a<c
 ·exact e
 ·exact absurd (kle_lt (a:=c) (b:=a) e h) k
theorem ktri (a b:List UInt8):a<b∨a=b∨b<a:=by
 by_cases h:a<b
 ·exact .inl h
 ·by_cases k:b<a
  ·exact .inr (.inr k)
  ·exact .inr (.inl (List.le_antisymm (show a≤b from k) (show b≤a from h)))
theorem klt_asymm {a b:List UInt8} (h:a<b):¬b<a:=fun k=>klt_irrefl a (klt_trans h k)
theorem knil (a:List UInt8):¬a < []:=fun h=>by cases h
theorem knil_lt {a:List UInt8} (h:a≠[]):[]<a:=by
 cases a with
 | nil=>exact absurd rfl h
 | cons x r=>exact List.nil_lt_cons x r
open Go.RowKit
theorem TabR.move {α:Type} {sz:Nat} {R R':List Value→α→Prop} {w w':World} {a:Option Addr} {len cap:Nat} {l:List α} (h:TabR sz R w a len cap l) (hb:Below w.heap.size w w') (hR:∀cs y,y∈l→R cs y→R' cs y):TabR sz R' w' a len cap l:=by
 obtain⟨h1,h2,h3,hn,h4⟩:=TabR.below (Nat.le_refl _) hb h;refine⟨h1,h2,h3,hn,?_⟩
 rcases h4 with h4|⟨b,off,h5,h6,h7⟩
 ·exact .inl h4
 ·exact .inr ⟨b,off,h5,h6,fun i y hy=>by obtain⟨cs,c1,c2,c3⟩:=h7 i y hy;exact⟨cs,c1,hR _ _ (List.mem_of_getElem? hy) c2,c3⟩⟩
theorem TabR.lens {α:Type} {sz:Nat} {R:List Value→α→Prop} {w:World} {a:Option Addr} {len cap:Nat} {l:List α} (h:TabR sz R w a len cap l):l.length=len∧len≤cap∧cap≤9223372036854775807:=⟨h.1,h.2.1,by have:=h.2.2.1;unfold maxLen at this;omega⟩
theorem TabR.nil {α:Type} {sz:Nat} {R:List Value→α→Prop} (w:World):TabR sz R w none 0 0 ([]:List α):=⟨rfl,Nat.le_refl _,by unfold maxLen;omega,fun _=>rfl,.inl rfl⟩
def IsKey (cs:List Value) (y:List UInt8):Prop:=cs=[.string (strOf y)]
def KeysIn (w:World) (a:Option Addr) (n c:Nat) (l:List (List UInt8)):Prop:=TabR 1 IsKey w a n c l
def IsTv (w:World) (cs:List Value) (v:Tv):Prop:=∃a n c,cs=[.string (strOf v.data),.slice a n c]∧Row .i64 w a n c v.pages
theorem IsTv.below {w w':World} {cs:List Value} {v:Tv} (h:IsTv w cs v) (hb:Below w.heap.size w w'):IsTv w' cs v:=by
 obtain⟨a,n,c,e,hr⟩:=h;exact⟨a,n,c,e,hr.below (Nat.le_refl _) hb⟩
def ValsIn (w:World) (a:Option Addr) (n c:Nat) (l:List Tv):Prop:=TabR 2 (IsTv w) w a n c l
def NodeIn:Nat→World→List Value→Tr→Prop
 | 0,_,_,_=>False
 | _+1,w,cs,.leaf p l=>∃ka kn kc va vn vc ca cc,cs=[.int .i64 p,.bool true,.slice ka kn kc,.slice va vn vc,.slice ca 0 cc]∧KeysIn w ka kn kc (keysOf l)∧ValsIn w va vn vc (l.map (·.2))∧TabR 5 (fun _ (_:Unit)=>True) w ca 0 cc []
 | n+1,w,cs,.node p l=>∃ka kn kc va vc ca cn cc,cs=[.int .i64 p,.bool false,.slice ka kn kc,.slice va 0 vc,.slice ca cn cc]∧KeysIn w ka kn kc (keysOf l)∧TabR 2 (fun _ (_:Unit)=>True) w va 0 vc []∧TabR 5 (NodeIn n w) w ca cn cc (l.map (·.2))
theorem NodeIn.below:∀{n:Nat} {w w':World} {cs:List Value} {t:Tr},NodeIn n w cs t→Below w.heap.size w w'→NodeIn n w' cs t
 | 0,_,_,_,_,h,_=>h.elim
 | _+1,_,_,_,.leaf p l,h,hb=>by
  obtain⟨ka,kn,kc,va,vn,vc,ca,cc,e,h1,h2,h3⟩:=h;exact⟨ka,kn,kc,va,vn,vc,ca,cc,e,TabR.below (Nat.le_refl _) hb h1,TabR.move h2 hb (fun _ _ _ h=>h.below hb),TabR.below (Nat.le_refl _) hb h3⟩
 | n+1,_,_,_,.node p l,h,hb=>by
  obtain⟨ka,kn,kc,va,vc,ca,cn,cc,e,h1,h2,h3⟩:=h;exact⟨ka,kn,kc,va,vc,ca,cn,cc,e,TabR.below (Nat.le_refl _) hb h1,TabR.below (Nat.le_refl _) hb h2,TabR.move h3 hb (fun _ _ _ h=>NodeIn.below h hb)⟩
def IsLc (w:World) (cs:List Value) (y:List UInt8×Tv):Prop:=∃pa pn pc ka kc,cs=[.string (strOf y.1),.string (strOf y.2.data),.slice pa pn pc,.slice ka 0 kc]∧Row .i64 w pa pn pc y.2.pages∧TabR 3 (fun _ (_:Unit)=>True) w ka 0 kc []
def RIn:Nat→World→List Value→Tr→Prop
 | 0,_,_,_=>False
 | _+1,w,cs,.leaf p l=>∃a n c,cs=[.int .i64 p,.bool true,.slice a n c]∧TabR 4 (IsLc w) w a n c l
 | n+1,w,cs,.node p l=>∃a m c,cs=[.int .i64 p,.bool false,.slice a m c]∧TabR 4 (fun cs (y:List UInt8×Tr)=>∃pa pc ka kc,cs=[.string (strOf y.1),.string (strOf []),.slice pa 0 pc,.slice ka 1 kc]∧Row .i64 w pa 0 pc []∧TabR 3 (RIn n w) w ka 1 kc [y.2]) w a m c l
def IsNc (n:Nat) (w:World) (cs:List Value) (y:List UInt8×Tr):Prop:=∃pa pc ka kc,cs=[.string (strOf y.1),.string (strOf []),.slice pa 0 pc,.slice ka 1 kc]∧Row .i64 w pa 0 pc []∧TabR 3 (RIn n w) w ka 1 kc [y.2]
def Cl (sz:Nat):Type:={ cs:List Value // cs.length=sz∧∀u∈cs,u.oneCell'=true }
def Raw (sz:Nat) (w:World) (a:Option Addr) (n c:Nat) (L:List (Cl sz)):Prop:=TabR sz (fun cs y=>cs=y.1) w a n c L
def Tells {α:Type} {sz:Nat} (R:List Value→α→Prop) (L:List (Cl sz)) (l:List α):Prop:=L.length=l.length∧∀(i:Nat) (x:Cl sz) (y:α),L[i]? = some x→l[i]? = some y→R x.1 y
theorem TabR.raw {α:Type} {sz:Nat} {R:List Value→α→Prop} {w:World} {a:Option Addr} {n c:Nat} {l:List α} (h:TabR sz R w a n c l) (h1:∀cs y,R cs y→∀u∈cs,u.oneCell'=true):∃L:List (Cl sz),Raw sz w a n c L∧Tells R L l:=by
 obtain⟨e1,e2,e3,e4,e5⟩:=h
 rcases e5 with e5|⟨b,off,f1,f2,f3⟩
 ·subst e5
  have:l=[]:=List.eq_nil_of_length_eq_zero e1;subst this;exact⟨[],⟨rfl,e2,e3,e4,.inl rfl⟩,rfl,fun i x y hx=>by simp at hx⟩
 ·have each:∀i,i<l.length→∃x:Cl sz,∃y,l[i]? = some y∧R x.1 y∧∀j v,x.1[j]? = some v→w.cell? ⟨b,off+i*sz+j,none⟩=some v:=by
   intro i hi;have hy:l[i]? = some l[i]:=List.getElem?_eq_getElem hi;obtain⟨cs,c1,c2,c3⟩:=f3 i _ hy;exact⟨⟨cs,c1,h1 _ _ c2⟩,_,hy,c2,c3⟩
  by_cases h0:l.length=0
  ·have:l=[]:=List.eq_nil_of_length_eq_zero h0
   subst this;exact⟨[],⟨by simpa using e1,e2,e3,e4,.inl (by simpa using e1.symm)⟩,rfl,fun i x y hx=>by simp at hx⟩
  ·obtain⟨x0,_⟩:=each 0 (by omega)
   haveI:Inhabited (Cl sz):=⟨x0⟩
   obtain⟨q,hq⟩:=Go.Deep.choose_lt each;refine⟨(List.range l.length).map q,⟨by simpa using e1,e2,e3,e4,.inr ⟨b,off,f1,f2,fun i y hy=>?_⟩⟩,by simp,fun i x y hx hy=>?_⟩
   ·have hi:i<l.length:=by have:=(List.getElem?_eq_some_iff.1 hy).1;simpa using this
    have hy':y=q i:=by simp[hi] at hy;exact hy.symm
    subst hy';obtain⟨z,_,_,g3⟩:=hq i hi;exact⟨(q i).1,(q i).2.1,rfl,g3⟩
   ·have hi:i<l.length:=(List.getElem?_eq_some_iff.1 hy).1
    have hx':x=q i:=by simp[hi] at hx;exact hx.symm
    subst hx';obtain⟨z,g1,g2,_⟩:=hq i hi;rw[hy] at g1;cases g1;exact g2
theorem Raw.tab {α:Type} {sz:Nat} {R:List Value→α→Prop} {w:World} {a:Option Addr} {n c:Nat} {L:List (Cl sz)} {l:List α} (h:Raw sz w a n c L) (hR:Tells R L l):TabR sz R w a n c l:=by
 obtain⟨e1,e2,e3,e4,e5⟩:=h;refine⟨by rw[←hR.1];exact e1,e2,e3,e4,?_⟩
 rcases e5 with e5|⟨b,off,f1,f2,f3⟩
 ·exact .inl e5
 ·refine .inr ⟨b,off,f1,f2,fun i y hy=>?_⟩
  have hi:i<L.length:=by rw[hR.1];exact(List.getElem?_eq_some_iff.1 hy).1
  have hx:L[i]? = some L[i]:=List.getElem?_eq_getElem hi;obtain⟨cs,c1,c2,c3⟩:=f3 i _ hx;exact⟨cs,c1,by rw[c2];exact hR.2 i _ y hx hy,c3⟩
section
variable {α:Type} {sz:Nat} {R:List Value→α→Prop}
theorem Tells.mono {R':List Value→α→Prop} {L:List (Cl sz)} {l:List α} (h:Tells R L l) (hR:∀cs y,y∈l→R cs y→R' cs y):Tells R' L l:=⟨h.1,fun i x y hx hy=>hR _ _ (List.mem_of_getElem? hy) (h.2 i x y hx hy)⟩
theorem Tells.nil:Tells R ([]:List (Cl sz)) ([]:List α):=⟨rfl,fun i x y hx=>by simp at hx⟩
theorem Tells.append {L M:List (Cl sz)} {l m:List α} (h:Tells R L l) (g:Tells R M m):Tells R (L++M) (l++m):=by
 refine⟨by rw[List.length_append,List.length_append,h.1,g.1],fun i x y hx hy=>?_⟩
 by_cases hi:i<L.length
 ·rw[List.getElem?_append_left hi] at hx
  rw[List.getElem?_append_left (by rw[←h.1];exact hi)] at hy;exact h.2 i x y hx hy
 ·rw[List.getElem?_append_right (by omega)] at hx
  rw[List.getElem?_append_right (by rw[←h.1];omega),←h.1] at hy;exact g.2 _ x y hx hy
theorem Tells.one {x:Cl sz} {y:α} (h:R x.1 y):Tells R [x] [y]:=by
 refine⟨rfl,fun i x' y' hx hy=>?_⟩;cases i with
 | zero=>simp at hx hy;subst hx hy;exact h
 | succ i=>simp at hx
theorem Tells.cons {x:Cl sz} {y:α} {L:List (Cl sz)} {l:List α} (h:R x.1 y) (g:Tells R L l):Tells R (x::L) (y::l):=(Tells.one h).append g
end
def flatC {sz:Nat} (L:List (Cl sz)):List Value:=L.flatMap (·.1)
theorem flatC_append {sz:Nat} (L M:List (Cl sz)):flatC (L++M)=flatC L++flatC M:=by simp[flatC]
theorem Raw.of_own {sz:Nat} {w:World} {base:Nat} {e:TypeId} {v:Value} {n:Nat} {L:List (Cl sz)} (h:w.ownsRow base e sz v n (flatC L)) (hn:L.length=n):∃a cap,v=.slice a n cap∧Raw sz w a n cap L:=by
 subst hn;exact TabR.of_own (fun y:Cl sz=>y.1) (fun y=>y.2.1) (fun y=>rfl) h
section
variable {P:Program}
theorem run_append_raw {w:World} (base:Nat) (t e:TypeId) (i:TypeInfo) (z:Value) (sz bytes:Nat) (ht:P.underlying t=some (.slice e)) (hi:P.info? e=some i) (hz:i.zero=some z)
 (hsize:i.size=sz) (hby:i.bytes=bytes) (hzs:z.cells.size=sz) (hsz:0<sz) {v:Value} {n:Nat} {L:List (Cl sz)} (hown:w.ownsRow base e sz v n (flatC L))
 {a:Option Addr} {m c:Nat} {M:List (Cl sz)} (hrow:Raw sz w a m c M) (h63:n+m≤maxLen) (hbytes:(n+m)*bytes≤140737488355328) (hbase:base≤w.heap.size) :
 ∃v' w',(Builtin.append_ #[t,t] t #[v,.slice a m c]).run P w=.ok v' w'∧AppOut w base e sz v (n+m) (flatC (L++M)) w.heap.size v' w':=by
 rw[flatC_append];exact run_append_tab base t e i z sz bytes ht hi hz hsize hby hzs hsz hown (fun cs (y:Cl sz)=>cs=y.1) (fun y=>y.1) (fun cs y h=>h) (fun y=>y.2.1) (fun y=>y.2.2) hrow h63 hbytes hbase
end
theorem Raw.lens {sz:Nat} {w:World} {a:Option Addr} {n c:Nat} {L:List (Cl sz)} (h:Raw sz w a n c L):L.length=n∧n≤c∧c≤9223372036854775807:=TabR.lens h
def keyOk (k:List UInt8):Prop:=k≠[]∧k.length≤16
def valOk (v:Tv):Prop:=v.data.length≤400∧(v.pages≠[]→16<v.data.length)
def ltH (hi k:List UInt8):Prop:=hi=[]∨k<hi
theorem ltH.of {hi k j:List UInt8} (h:ltH hi k) (hj:j<k):ltH hi j:=h.imp id (klt_trans hj)
def KidsP (P:List UInt8→List UInt8→Tr→Prop):List UInt8→List UInt8→List (List UInt8×Tr)→Prop
 | _,_,[]=>False
 | lo,hi,[c]=>P lo hi c.2
 | lo,hi,c::d::r=>P lo d.1 c.2∧keyOk d.1∧lo<d.1∧ltH hi d.1∧KidsP P d.1 hi (d::r)
def LeafOk (lo hi:List UInt8) (l:List (List UInt8×Tv)):Prop:=
 (keysOf l).Pairwise (fun a b=>a<b)∧∀c∈l,keyOk c.1∧¬c.1<lo∧ltH hi c.1∧valOk c.2
def Shape:Nat→List UInt8→List UInt8→Tr→Prop
 | 0,_,_,_=>False
 | n+1,lo,hi,.leaf _ l=>n=0∧LeafOk lo hi l
 | n+1,lo,hi,.node _ l=>KidsP (fun lo hi t=>Shape n lo hi t∧30≤sumT t∧sumT t≤122) lo hi l∧keyAt l 0=[]
def Good (n:Nat) (lo hi:List UInt8) (t:Tr):Prop:=Shape n lo hi t∧30≤sumT t∧sumT t≤122
section
variable {P:List UInt8→List UInt8→Tr→Prop}
theorem kids_first {lo hi:List UInt8} {k k':List UInt8} {t:Tr} {r:List (List UInt8×Tr)} (h:KidsP P lo hi ((k,t)::r)):KidsP P lo hi ((k',t)::r):=by
 cases r<;>exact h
theorem kids_split {hi:List UInt8} {d:List UInt8×Tr} {b:List (List UInt8×Tr)}:∀{a:List (List UInt8×Tr)} {c:List UInt8×Tr} {lo:List UInt8},KidsP P lo hi (c::a++d::b) →
 KidsP P lo d.1 (c::a)∧keyOk d.1∧lo<d.1∧ltH hi d.1∧KidsP P d.1 hi (d::b)
 | [],c,lo,h=>h
 | e::a,c,lo,h=>by
  obtain⟨h1,h2,h3,h4,h5⟩:=h;obtain⟨g1,g2,g3,g4,g5⟩:=kids_split (a:=a) (c:=e) (lo:=e.1) h5;exact⟨⟨h1,h2,h3,.inr g3,g1⟩,g2,klt_trans h3 g3,g4,g5⟩
theorem kids_glue {hi:List UInt8} {d:List UInt8×Tr} {b:List (List UInt8×Tr)}:∀{a:List (List UInt8×Tr)} {c:List UInt8×Tr} {lo:List UInt8},KidsP P lo d.1 (c::a)→keyOk d.1→lo<d.1→ltH hi d.1→KidsP P d.1 hi (d::b) →
 KidsP P lo hi (c::a++d::b)
 | [],c,lo,h1,h2,h3,h4,h5=>⟨h1,h2,h3,h4,h5⟩
 | e::a,c,lo,h1,h2,h3,h4,h5=>by
  obtain⟨g1,g2,g3,g4,g5⟩:=h1;have g6:e.1<d.1:=g4.resolve_left h2.1;exact⟨g1,g2,g3,h4.of g6,kids_glue g5 h2 g6 h4 h5⟩
theorem kids_ne {lo hi:List UInt8} {l:List (List UInt8×Tr)} (h:KidsP P lo hi l):l≠[]:=by
 intro e;subst e;exact h
def Ctx (P:List UInt8→List UInt8→Tr→Prop) (lo hi:List UInt8) (a b:List (List UInt8×Tr)) (k lo' hi':List UInt8):Prop:=
 ((a=[]∧lo'=lo)∨(a≠[]∧KidsP P lo k a∧keyOk k∧lo<k∧lo'=k)) ∧
 ((b=[]∧hi'=hi)∨∃d r,b=d::r∧hi'=d.1∧keyOk d.1∧ltH hi d.1∧KidsP P d.1 hi b) ∧
 (a≠[]∨b≠[]→ltH hi' lo')
theorem kids_focus {lo hi:List UInt8} {a b:List (List UInt8×Tr)} {c:List UInt8×Tr} (h:KidsP P lo hi (a++c::b)):∃lo' hi',Ctx P lo hi a b c.1 lo' hi'∧P lo' hi' c.2:=by
 cases a with
 | nil=>
  cases b with
  | nil=>exact⟨lo,hi,⟨.inl ⟨rfl,rfl⟩,.inl ⟨rfl,rfl⟩,fun h=>by rcases h with h|h<;>exact absurd rfl h⟩,h⟩
  | cons d r=>
   obtain⟨h1,h2,h3,h4,h5⟩:=h;exact⟨lo,d.1,⟨.inl ⟨rfl,rfl⟩,.inr ⟨d,r,rfl,rfl,h2,h4,h5⟩,fun _=>.inr h3⟩,h1⟩
 | cons e a=>
  obtain⟨g1,g2,g3,g4,g5⟩:=kids_split h;cases b with
  | nil=>exact⟨c.1,hi,⟨.inr ⟨by simp,g1,g2,g3,rfl⟩,.inl ⟨rfl,rfl⟩,fun _=>g4⟩,g5⟩
  | cons d r=>
   obtain⟨h1,h2,h3,h4,h5⟩:=g5;exact⟨c.1,d.1,⟨.inr ⟨by simp,g1,g2,g3,rfl⟩,.inr ⟨d,r,rfl,rfl,h2,h4,h5⟩,fun _=>.inr h3⟩,h1⟩
theorem kids_plug {lo hi:List UInt8} {a b:List (List UInt8×Tr)} {k lo' hi':List UInt8} (hc:Ctx P lo hi a b k lo' hi') {t:Tr} {m:List (List UInt8×Tr)} (hm:KidsP P lo' hi' ((k,t)::m)):KidsP P lo hi (a++((k,t)::m++b)):=by
 obtain⟨h1,h2,h3⟩:=hc;have hmb:KidsP P lo' hi ((k,t)::m++b):=by
  rcases h2 with⟨rfl,rfl⟩|⟨d,r,rfl,rfl,g1,g2,g3⟩
  ·rw[List.append_nil];exact hm
  ·exact kids_glue hm g1 ((h3 (.inr (by simp))).resolve_left g1.1) g2 g3
 rcases h1 with⟨rfl,rfl⟩|⟨ha,g1,g2,g3,rfl⟩
 ·exact hmb
 ·cases a with
  | nil=>exact absurd rfl ha
  | cons e a=>
   refine kids_glue (d:=(lo',t)) (b:=m++b) g1 g2 g3 ?_ hmb;have h5:=h3 (.inl ha)
   rcases h2 with⟨rfl,rfl⟩|⟨d,r,rfl,rfl,e1,e2,e3⟩
   ·exact h5
   ·exact e2.of (h5.resolve_left e1.1)
end
theorem vSz_le (v:Tv):vSz v≤16:=by unfold vSz;split<;>omega
theorem sum_leaf (p:Int) (l:List (List UInt8×Tv)):sumT (.leaf p l)=sumI (l.map fun c=>((3+vSz c.2+c.1.length:Nat):Int)):=rfl
theorem sum_node (p:Int) (l:List (List UInt8×Tr)):sumT (.node p l)=sumI (l.map fun c=>((4+c.1.length:Nat):Int)):=rfl
theorem sum_node_append (p q r:Int) (a b:List (List UInt8×Tr)):sumT (.node p (a++b))=sumT (.node q a)+sumT (.node r b):=by
 simp only[sum_node,List.map_append,sumI_append]
theorem sum_node_cons (p q:Int) (c:List UInt8×Tr) (b:List (List UInt8×Tr)):sumT (.node p (c::b))=((4+c.1.length:Nat):Int)+sumT (.node q b):=by
 simp only[sum_node,List.map_cons,sumI_cons]
theorem sum_node_nil (p:Int):sumT (.node p [])=0:=rfl
theorem sum_leaf_append (p q r:Int) (a b:List (List UInt8×Tv)):sumT (.leaf p (a++b))=sumT (.leaf q a)+sumT (.leaf r b):=by
 simp only[sum_leaf,List.map_append,sumI_append]
theorem sum_leaf_cons (p q:Int) (c:List UInt8×Tv) (b:List (List UInt8×Tv)):sumT (.leaf p (c::b))=((3+vSz c.2+c.1.length:Nat):Int)+sumT (.leaf q b):=by
 simp only[sum_leaf,List.map_cons,sumI_cons]
theorem sumI_nonneg {l:List Int} (h:∀x∈l,0≤x):0≤sumI l:=by
 induction l with
 | nil=>simp[sumI_nil]
 | cons x l ih=>
  rw[sumI_cons];have:=h x (by simp);have:=ih (fun y hy=>h y (by simp[hy]));omega
theorem sizes_nonneg (t:Tr):∀x∈sizesT t,0≤x:=by
 cases t<;>(intro x hx;obtain⟨c,_,rfl⟩:=List.mem_map.1 hx;omega)
theorem sumT_nonneg (t:Tr):0≤sumT t:=sumI_nonneg (sizes_nonneg t)
theorem cut_bal {l:List Int} (h:Small l) {c:Int} (hc:∀x∈l,x≤c) (hc1:0≤c∧c≤100) (h1:122<sumI l) {m:Nat} (hl:∀k,1≤k→k<l.length→worse l m≤worse l k) :
 2*worse l m≤sumI l+c:=by
 obtain⟨k,hk,ha,hb⟩:=first_half l h (by omega);have hs:=sumI_take_succ l k hk;have hx:l[k]?.getD 0≤c:=by simp[hk];exact hc _ (List.getElem_mem hk)
 have w0:=(h.take k).bd;have hlow:=worse_lo (l:=l) m
 by_cases hd:2*sumI (l.take (k+1))≤sumI l+c
 ·have hk1:k+1<l.length:=by
   by_cases e:k+1=l.length
   ·rw[e,sumI_take_all] at hd;omega
   ·omega
  have:=hl (k+1) (by omega) hk1;have:=worse_lo (l:=l) (k+1);omega
 ·have hk0:1≤k:=by
   by_cases e:k=0
   ·subst e;simp[sumI_nil] at *;omega
   ·omega
  have:=hl k hk0 hk;have:=worse_lo (l:=l) k;omega
theorem cut_parts {l:List Int} (hlen:l.length≤1000) (h0:∀x∈l,0≤x∧x≤36) (hsum:sumI l≤200):(atF l=0∧sumI l≤122) ∨
 ∃m:Nat,1≤m∧m<l.length∧atF l=(m:Int)∧122<sumI l∧sumI (l.take m)≤122∧sumI (l.drop m)≤122∧∀c:Int,0≤c→(∀x∈l,x≤c)→sumI l-c≤2*sumI (l.take m)∧sumI l-c≤2*sumI (l.drop m):=by
 have hS:Small l:=⟨hlen,fun x hx=>by have:=h0 x hx;omega⟩
 rcases atF_cases hS with⟨e,hc⟩|⟨h1,m,g1,g2,g3,g4⟩
 ·left
  refine⟨e,?_⟩
  rcases hc with hc|hc
  ·exact hc
  ·match l,hc,h0 with
   | [],_,_=>simp[sumI_nil]
   | [x],_,h0=>rw[sumI_cons,sumI_nil];have:=h0 x (by simp);omega
   | _::_::_,hc,_=>simp at hc;omega
 ·right
  have hb:=cut_bal hS (c:=36) (fun x hx=>(h0 x hx).2) (by omega) h1 (m:=m) (fun k a b=>(g4 k a b).1);have hw:=worse_lo (l:=l) m;refine⟨m,g1,g2,g3,h1,by omega,by omega,fun c hc0 hc=>?_⟩
  by_cases hc9:c≤100
  ·have:=cut_bal hS (c:=c) hc ⟨hc0,hc9⟩ h1 (m:=m) (fun k a b=>(g4 k a b).1)
   omega
  ·have h5:=sumI_nonneg (l:=l.take m) (fun x hx=>(h0 x (List.mem_of_mem_take hx)).1)
   have h6:=sumI_nonneg (l:=l.drop m) (fun x hx=>(h0 x (List.mem_of_mem_drop hx)).1);omega
theorem keyAt_at {α:Type} (a b:List (List UInt8×α)) (c:List UInt8×α):keyAt (a++c::b) a.length=c.1:=by simp[keyAt]
theorem kidAt_at (a b:List (List UInt8×Tr)) (c:List UInt8×Tr):kidAt (a++c::b) a.length=c.2:=by simp[kidAt]
theorem list_at {α:Type} {l:List α} {k:Nat} (h:k<l.length):∃a c b,l=a++c::b∧a.length=k:=by
 refine⟨l.take k,l[k],l.drop (k+1),?_,by simp;omega⟩;simp
theorem kids_keys {P:List UInt8→List UInt8→Tr→Prop}:∀{r:List (List UInt8×Tr)} {c:List UInt8×Tr} {lo hi:List UInt8},KidsP P lo hi (c::r)→∀d∈r,keyOk d.1
 | [],_,_,_,_,d,hd=>by cases hd
 | e::r,_,_,_,h,d,hd=>by
  rcases List.mem_cons.1 hd with rfl|hd
  ·exact h.2.1
  ·exact kids_keys h.2.2.2.2 d hd
theorem shape_kids {n:Nat} {lo hi:List UInt8} {p:Int} {l:List (List UInt8×Tr)} (h:Shape (n+1) lo hi (.node p l)):KidsP (Good n) lo hi l∧keyAt l 0=[]:=h
theorem shape_node {n:Nat} {lo hi:List UInt8} {p:Int} {l:List (List UInt8×Tr)} (h:KidsP (Good n) lo hi l) (h0:keyAt l 0=[]):Shape (n+1) lo hi (.node p l):=⟨h,h0⟩
theorem kids_good0 {lo hi:List UInt8} {l:List (List UInt8×Tr)} (h:KidsP (Good 0) lo hi l):False:=by
 match l,h with
 | [_],h=>exact h.1
 | _::_::_,h=>exact h.1.1
theorem node_cells {P:List UInt8→List UInt8→Tr→Prop} {lo hi:List UInt8} {p:Int} {l:List (List UInt8×Tr)} (h:KidsP P lo hi l) (h0:keyAt l 0=[]):∀x∈sizesT (.node p l),4≤x∧x≤20:=by
 intro x hx;obtain⟨c,hc,rfl⟩:=List.mem_map.1 hx;cases l with
 | nil=>exact absurd h (by simp[KidsP])
 | cons e r=>
  rcases List.mem_cons.1 hc with rfl|hc
  ·have:c.1=[]:=by simpa[keyAt] using h0
   rw[this];simp
  ·have:=(kids_keys h c hc).2
   omega
theorem leaf_cells {lo hi:List UInt8} {p:Int} {l:List (List UInt8×Tv)} (h:LeafOk lo hi l):∀x∈sizesT (.leaf p l),4≤x∧x≤35:=by
 intro x hx;obtain⟨c,hc,rfl⟩:=List.mem_map.1 hx;obtain⟨h1,_⟩:=h.2 c hc;have h2:=vSz_le c.2;have h3:=h1.2;have h4:0<c.1.length:=List.length_pos_iff.2 h1.1;omega
theorem shape_cells {n:Nat} {lo hi:List UInt8} {t:Tr} (h:Shape n lo hi t):∀x∈sizesT t,4≤x∧x≤35:=by
 cases n with
 | zero=>exact h.elim
 | succ n=>
  cases t with
  | leaf p l=>exact leaf_cells h.2
  | node p l=>exact fun x hx=>by have:=node_cells (shape_kids h).1 (shape_kids h).2 x hx;omega
theorem len_sum {l:List Int} (h:∀x∈l,4≤x):4*(l.length:Int)≤sumI l:=by
 exact q639ae9
theorem shape_parts {n:Nat} {lo hi:List UInt8} {t:Tr} (h:Shape n lo hi t) (hs:sumT t≤200):(atF (sizesT t)=0∧sumT t≤122) ∨
 ∃m:Nat,1≤m∧m<(sizesT t).length∧atF (sizesT t)=(m:Int)∧122<sumT t∧sumI ((sizesT t).take m)≤122∧sumI ((sizesT t).drop m)≤122∧∀c:Int,0≤c→(∀x∈sizesT t,x≤c)→sumT t-c≤2*sumI ((sizesT t).take m)∧sumT t-c≤2*sumI ((sizesT t).drop m):=by
 have h1:=shape_cells h;have h2:=len_sum (fun x hx=>(h1 x hx).1);have hs':sumI (sizesT t)≤200:=hs;exact cut_parts (by omega) (fun x hx=>by have:=h1 x hx;omega) hs'
theorem sizes_len_leaf (p:Int) (l:List (List UInt8×Tv)):(sizesT (.leaf p l)).length=l.length:=by simp[sizesT]
theorem sizes_len_node (p:Int) (l:List (List UInt8×Tr)):(sizesT (.node p l)).length=l.length:=by simp[sizesT]
theorem part_ok {n:Nat} {lo hi:List UInt8} {t:Tr} (h:Shape n lo hi t) (hs:sumT t≤200) (hat:atF (sizesT t)≠0) :
 Good n lo (partT (atF (sizesT t)).toNat t).2.2 (partT (atF (sizesT t)).toNat t).1∧keyOk (partT (atF (sizesT t)).toNat t).2.2∧lo<(partT (atF (sizesT t)).toNat t).2.2∧ltH hi (partT (atF (sizesT t)).toNat t).2.2∧Good n (partT (atF (sizesT t)).toNat t).2.2 hi (partT (atF (sizesT t)).toNat t).2.1:=by
 rcases shape_parts h hs with⟨e,_⟩|⟨m,h1,h2,h3,h4,h5,h6,h7⟩
 ·exact absurd e hat
 rw[h3,Int.toNat_natCast];cases n with
 | zero=>exact h.elim
 | succ n=>
  cases t with
  | leaf p l=>
   obtain⟨rfl,hp,hl⟩:=h;rw[sizes_len_leaf] at h2;obtain⟨a,d,b,rfl,rfl⟩:=list_at h2;have hc:=leaf_cells (p:=p) ⟨hp,hl⟩;obtain⟨g1,g2⟩:=h7 35 (by omega) (fun x hx=>(hc x hx).2);have ek:keyAt (a++d::b) a.length=d.1:=keyAt_at a b d;have et:(a++d::b).take a.length=a:=List.take_left;have ed:(a++d::b).drop a.length=d::b:=List.drop_left;have st:sumI ((sizesT (.leaf p (a++d::b))).take a.length)=sumT (.leaf 0 a):=by
    simp only[sizesT,sumT,←List.map_take,et]
   have sd:sumI ((sizesT (.leaf p (a++d::b))).drop a.length)=sumT (.leaf 0 (d::b)):=by
    simp only[sizesT,sumT,←List.map_drop,ed]
   rw[st] at h5 g1;rw[sd] at h6 g2;simp only[partT,ek,et,ed];unfold keysOf at hp;rw[List.map_append,List.map_cons,List.pairwise_append,List.pairwise_cons] at hp;obtain⟨q1,⟨q2,q3⟩,q4⟩:=hp;have hd:=hl d (by simp);have hlt:∀c∈a,c.1<d.1:=fun c hc=>q4 c.1 (List.mem_map_of_mem hc) d.1 (by simp)
   obtain⟨c0,hc0⟩:∃c0,c0∈a:=by
    cases a with
    | nil=>simp at h1
    | cons c0 r=>exact⟨c0,by simp⟩
   refine⟨⟨⟨rfl,q1,fun c hc=>?_⟩,by omega,h5⟩,hd.1,kle_lt (hl c0 (by simp[hc0])).2.1 (hlt c0 hc0),hd.2.2.1,⟨⟨rfl,?_,fun c hc=>?_⟩,by omega,h6⟩⟩
   ·have:=hl c (by simp[hc])
    exact⟨this.1,this.2.1,.inr (hlt c hc),this.2.2.2⟩
   ·exact List.pairwise_cons.2 ⟨q2,q3⟩
   ·have:=hl c (List.mem_append_right _ hc)
    refine⟨this.1,?_,this.2.2.1,this.2.2.2⟩
    rcases List.mem_cons.1 hc with rfl|hc
    ·exact klt_irrefl _
    ·exact klt_asymm (q2 c.1 (List.mem_map_of_mem hc))
  | node p l=>
   obtain⟨hk,h0⟩:=shape_kids h;rw[sizes_len_node] at h2;obtain⟨a,d,b,rfl,rfl⟩:=list_at h2;have hc:=node_cells (p:=p) hk h0;obtain⟨g1,g2⟩:=h7 20 (by omega) (fun x hx=>(hc x hx).2);have ek:keyAt (a++d::b) a.length=d.1:=keyAt_at a b d;have et:(a++d::b).take a.length=a:=List.take_left;have ed:(a++d::b).drop a.length=d::b:=List.drop_left;have st:sumI ((sizesT (.node p (a++d::b))).take a.length)=sumT (.node 0 a):=by
    simp only[sizesT,sumT,←List.map_take,et]
   have sd:sumI ((sizesT (.node p (a++d::b))).drop a.length)=sumT (.node 0 (d::b)):=by
    simp only[sizesT,sumT,←List.map_drop,ed]
   rw[st] at h5 g1;rw[sd,sum_node_cons 0 0] at h6 g2;simp only[partT,ek,et,ed,firstK];cases a with
   | nil=>simp at h1
   | cons e a=>
    obtain⟨q1,q2,q3,q4,q5⟩:=kids_split hk;have q6:=q2.2;have e0:keyAt (e::a) 0=[]:=by simpa[keyAt] using h0
    refine⟨⟨shape_node q1 e0,by omega,h5⟩,q2,q3,q4,⟨shape_node (kids_first q5) (by simp[keyAt]),?_,?_⟩⟩
    ·rw[sum_node_cons 0 0];simp;omega
    ·rw[sum_node_cons 0 0];simp;omega
theorem join_ok {n:Nat} {lo k hi:List UInt8} {s t:Tr} (hs:Shape n lo k s) (ht:Shape n k hi t) (hk:keyOk k) (hlo:lo<k) (hhi:ltH hi k) :
 Shape n lo hi (joinT k s t)∧sumT s+sumT t≤sumT (joinT k s t)∧sumT (joinT k s t)≤sumT s+sumT t+16:=by
 cases n with
 | zero=>exact hs.elim
 | succ n=>
  cases s with
  | leaf p l=>
   obtain⟨rfl,hp,hl⟩:=hs;cases t with
   | leaf q m=>
    obtain⟨_,hq,hm⟩:=ht;refine⟨⟨rfl,?_,fun c hc=>?_⟩,?_,?_⟩
    ·unfold keysOf at *
     exact q648619
    ·rcases List.mem_append.1 hc with hc|hc
     ·have:=hl c hc
      exact⟨this.1,this.2.1,hhi.of (this.2.2.1.resolve_left hk.1),this.2.2.2⟩
     ·have:=hm c hc
      exact⟨this.1,fun h=>this.2.1 (klt_trans h hlo),this.2.2.1,this.2.2.2⟩
    ·simp only[joinT];rw[sum_leaf_append 0 p q];omega
    ·simp only[joinT];rw[sum_leaf_append 0 p q];omega
   | node q m=>exact(kids_good0 (shape_kids ht).1).elim
  | node p l=>
   cases t with
   | leaf q m=>
    obtain⟨rfl,_⟩:=ht;exact(kids_good0 (shape_kids hs).1).elim
   | node q m=>
    obtain⟨h1,h0⟩:=shape_kids hs;obtain⟨g1,g0⟩:=shape_kids ht;cases l with
    | nil=>exact h1.elim
    | cons c l=>
     cases m with
     | nil=>exact g1.elim
     | cons d m=>
      have d0:d.1=[]:=by simpa[keyAt] using g0
      simp only[joinT,firstK];refine⟨shape_node (kids_glue (d:=(k,d.2)) h1 hk hlo hhi (kids_first g1)) (by simpa[keyAt] using h0),?_,?_⟩
      ·rw[sum_node_append 0 p 0,sum_node_cons 0 0 (k,d.2),sum_node_cons q 0 d,d0];simp;omega
      ·have:=hk.2
       rw[sum_node_append 0 p 0,sum_node_cons 0 0 (k,d.2),sum_node_cons q 0 d,d0];simp;omega
theorem splitT_at (a b:List (List UInt8×Tr)) (k:List UInt8) (t:Tr):splitT (a++(k,t)::b) a.length =
 if atF (sizesT t)=0 then none else some (a++((k,(partT (atF (sizesT t)).toNat t).1)::((partT (atF (sizesT t)).toNat t).2.2,(partT (atF (sizesT t)).toNat t).2.1)::b)):=by
 unfold splitT;rw[kidAt_at,keyAt_at,List.take_left];have:(a++(k,t)::b).drop (a.length+1)=b:=by
  rw[List.drop_append,List.drop_of_length_le (by omega)];simp
 rw[this]
theorem split_ok {n:Nat} {lo hi lo' hi' k:List UInt8} {a b:List (List UInt8×Tr)} {t:Tr} (hc:Ctx (Good n) lo hi a b k lo' hi') (hs:Shape n lo' hi' t) (hsum:sumT t≤200) (h30:30≤sumT t) (h0:keyAt (a++(k,t)::b) 0=[]) :
 ∃m,(splitT (a++(k,t)::b) a.length=some m∨(splitT (a++(k,t)::b) a.length=none∧m=a++(k,t)::b))∧KidsP (Good n) lo hi m∧keyAt m 0=[]∧sumT (.node 0 m)≤sumT (.node 0 (a++(k,t)::b))+20∧(a++(k,t)::b).length≤m.length∧(splitT (a++(k,t)::b) a.length=none→atF (sizesT t)=0):=by
 rw[splitT_at]
 by_cases hat:atF (sizesT t)=0
 ·rw[if_pos hat]
  rcases shape_parts hs hsum with⟨_,h1⟩|⟨m,h1,_,h3,_⟩
  ·refine⟨_,.inr ⟨rfl,rfl⟩,?_,h0,by omega,Nat.le_refl _,fun _=>hat⟩
   have:=kids_plug (m:=[]) hc (t:=t) ⟨hs,h30,h1⟩;simpa using this
  ·omega
 ·rw[if_neg hat]
  obtain⟨p1,p2,p3,p4,p5⟩:=part_ok hs hsum hat;refine⟨_,.inl rfl,?_,?_,?_,by simp,fun h=>by cases h⟩
  ·have:=kids_plug (m:=[((partT (atF (sizesT t)).toNat t).2.2,(partT (atF (sizesT t)).toNat t).2.1)]) hc (t:=(partT (atF (sizesT t)).toNat t).1) ⟨p1,p2,p3,p4,p5⟩
   simpa using this
  ·cases a<;>simpa[keyAt] using h0
  ·have:=p2.2
   rw[sum_node_append 0 0 0,sum_node_cons 0 0,sum_node_cons 0 0,sum_node_append 0 0 0 a,sum_node_cons 0 0];simp only;omega
theorem good_len {n:Nat} {lo hi:List UInt8} {p:Int} {l:List (List UInt8×Tr)} (h:Good n lo hi (.node p l)):2≤l.length:=by
 cases n with
 | zero=>exact h.1.elim
 | succ n=>
  have h0:=(shape_kids h.1).2;have h1:=h.2.1
  match l,h0,h1,kids_ne (shape_kids h.1).1 with
  | [c],h0,h1,_=>
   have:c.1=[]:=by simpa[keyAt] using h0
   rw[sum_node_cons p p,sum_node_nil,this] at h1;simp at h1
  | _::_::_,_,_,_=>simp
theorem ctx_right {P:List UInt8→List UInt8→Tr→Prop} {lo hi lo' hi' k:List UInt8} {a r:List (List UInt8×Tr)} {d:List UInt8×Tr} (hc:Ctx P lo hi a (d::r) k lo' hi'):∃hi'',Ctx P lo hi a r k lo' hi''∧P d.1 hi'' d.2∧hi'=d.1∧keyOk d.1∧lo'<d.1∧ltH hi'' d.1:=by
 obtain⟨h1,h2,h3⟩:=hc
 rcases h2 with⟨h,_⟩|⟨d',r',e,rfl,g1,g2,g3⟩
 ·cases h
 cases e;obtain⟨lo'',hi'',hq,hp⟩:=kids_focus (a:=[]) (c:=d) (b:=r) g3;obtain⟨q1,q2,q3⟩:=hq;obtain rfl:lo''=d.1:=by
  rcases q1 with⟨_,e⟩|⟨e,_⟩
  ·exact e
  ·exact absurd rfl e
 have hlt:lo'<d.1:=(h3 (.inr (by simp))).resolve_left g1.1;have hd:ltH hi'' d.1:=by
  rcases q2 with⟨rfl,rfl⟩|⟨d2,r2,rfl,rfl,e1,e2,e3⟩
  ·exact g2
  ·exact q3 (.inr (by simp))
 exact⟨hi'',⟨h1,q2,fun _=>hd.of hlt⟩,hp,rfl,g1,hlt,hd⟩
theorem ctx_left {P:List UInt8→List UInt8→Tr→Prop} {lo hi lo' hi' k:List UInt8} {a:List (List UInt8×Tr)} {e:List UInt8×Tr} (hc:Ctx P lo hi (a++[e]) [] k lo' hi'):∃lo'',Ctx P lo hi a [] e.1 lo'' hi∧P lo'' k e.2∧hi'=hi∧lo'=k∧keyOk k∧lo''<k∧ltH hi k:=by
 obtain⟨h1,h2,h3⟩:=hc
 rcases h1 with⟨h,_⟩|⟨_,g1,g2,g3,rfl⟩
 ·simp at h
 obtain rfl:hi'=hi:=by
  rcases h2 with⟨_,e⟩|⟨d,r,e,_⟩
  ·exact e
  ·cases e
 obtain⟨lo'',hi'',hq,hp⟩:=kids_focus g1;obtain⟨q1,q2,q3⟩:=hq;obtain rfl:hi''=lo':=by
  rcases q2 with⟨_,e⟩|⟨d,r,e,_⟩
  ·exact e
  ·cases e
 have hhi:ltH hi' hi'':=h3 (.inl (by simp));have hlt:lo''<hi'':=by
  rcases q1 with⟨rfl,rfl⟩|⟨ha,_,_,_,rfl⟩
  ·exact g3
  ·exact(q3 (.inl ha)).resolve_left g2.1
 exact⟨lo'',⟨q1,.inl ⟨rfl,rfl⟩,fun _=>hhi.of hlt⟩,hp,rfl,rfl,g2,hlt,hhi⟩
theorem joined_right (a r:List (List UInt8×Tr)) (c d:List UInt8×Tr):joined (a++c::d::r) a.length=a++(c.1,joinT d.1 c.2 d.2)::r:=by
 unfold joined;have e1:a++c::d::r=(a++[c])++d::r:=by simp
 have k1:keyAt (a++c::d::r) (a.length+1)=d.1:=by rw[e1];have:=keyAt_at (a++[c]) r d;simpa using this
 have k2:kidAt (a++c::d::r) (a.length+1)=d.2:=by rw[e1];have:=kidAt_at (a++[c]) r d;simpa using this
 rw[keyAt_at,kidAt_at,k1,k2,List.take_left];have:(a++c::d::r).drop (a.length+2)=r:=by rw[List.drop_append,List.drop_of_length_le (by omega)];simp
 rw[this]
theorem mend_ok {n:Nat} {lo hi lo' hi' k:List UInt8} {a b:List (List UInt8×Tr)} {t:Tr} {p:Int} (hc:Ctx (Good n) lo hi a b k lo' hi') (hs:Shape n lo' hi' t) (hsum:sumT t≤160) (h0:keyAt (a++(k,t)::b) 0=[]) (hex:30≤sumT t∨a≠[]∨b≠[]) :
 ∃q m,mendT p (a++(k,t)::b) a.length=.node q m∧KidsP (Good n) lo hi m∧keyAt m 0=[]∧sumT (.node 0 m)≤sumT (.node 0 (a++(k,t)::b))+20∧(a++(k,t)::b).length≤m.length+1:=by
 by_cases hlow:30≤sumT t
 ·obtain⟨m,h1,h2,h3,h4,h5,_⟩:=split_ok hc hs (by omega) hlow h0
  unfold mendT
  rcases h1 with h1|⟨h1,rfl⟩
  ·rw[h1];exact⟨0,m,rfl,h2,h3,h4,by omega⟩
  ·have hl:lowT (kidAt (a++(k,t)::b) a.length)=false:=by rw[kidAt_at];simp[lowT];omega
   rw[h1];simp only;rw[if_pos (.inl hl)];exact⟨p,_,rfl,h2,h3,by omega,by omega⟩
 ·have hl:lowT (kidAt (a++(k,t)::b) a.length)=true:=by rw[kidAt_at];simp[lowT];omega
  have hsn:splitT (a++(k,t)::b) a.length=none:=by
   rw[splitT_at]
   rcases shape_parts hs (by omega) with⟨e,_⟩|⟨m,_,_,_,h4,_⟩
   ·rw[if_pos e]
   ·omega
  unfold mendT;rw[hsn];simp only;cases b with
  | cons d r=>
   rw[if_neg (by rw[hl];simp;omega)];have hj:joinAt (a++(k,t)::d::r).length a.length=a.length:=by unfold joinAt;simp
   rw[hj,joined_right];dsimp only;obtain⟨hi'',hc2,hg,rfl,hkd,hlo,hhi⟩:=ctx_right hc;obtain⟨j1,j2,j3⟩:=join_ok hs hg.1 hkd hlo hhi;have hg2:=hg.2;have hnn:=sumT_nonneg t;obtain⟨m,e1,e2,e3,e4,e5,_⟩:=split_ok hc2 j1 (by omega) (by omega) (by cases a<;>simpa[keyAt] using h0);have hd4:sumT (.node 0 (a++(k,joinT d.1 t d.2)::r))≤sumT (.node 0 (a++(k,t)::d::r)):=by
    rw[sum_node_append 0 0 0,sum_node_cons 0 0,sum_node_append 0 0 0 a,sum_node_cons 0 0,sum_node_cons 0 0 d];simp only;omega
   exact q857c04
  | nil=>
   rcases List.eq_nil_or_concat a with rfl|⟨a',e,rfl⟩
   ·simp at hex;omega
   ·rw[if_neg (by rw[hl];simp)]
    have hj:joinAt (a'.concat e++[(k,t)]).length (a'.concat e).length=a'.length:=by unfold joinAt;simp
    have el:a'.concat e++[(k,t)]=a'++e::(k,t)::[]:=by simp
    rw[hj,el,joined_right];dsimp only;rw[List.concat_eq_append] at hc;obtain⟨lo'',hc2,hg,rfl,rfl,hkd,hlo,hhi⟩:=ctx_left hc;obtain⟨j1,j2,j3⟩:=join_ok hg.1 hs hkd hlo hhi;have hg2:=hg.2;have hnn:=sumT_nonneg t;obtain⟨m,e1,e2,e3,e4,e5,_⟩:=split_ok hc2 j1 (by omega) (by omega) (by rw[el] at h0;cases a'<;>simpa[keyAt] using h0);have hd4:sumT (.node 0 (a'++(e.1,joinT lo' e.2 t)::[]))≤sumT (.node 0 (a'++e::(lo',t)::[])):=by
     rw[sum_node_append 0 0 0,sum_node_cons 0 0,sum_node_append 0 0 0 a',sum_node_cons 0 0 e,sum_node_cons 0 0 (lo',t)];simp only;omega
    exact q857c04
theorem putL_mem {key:List UInt8} {v:Tv}:∀{l:List (List UInt8×Tv)} {c:List UInt8×Tv},c∈putL key v l→c=(key,v)∨c∈l
 | [],c,h=>by simp[putL] at h;exact .inl h
 | d::r,c,h=>by
  unfold putL at h
  split at h
  ·rcases List.mem_cons.1 h with rfl|h
   ·exact .inr (by simp)
   ·exact(putL_mem h).imp id (fun h=>by simp[h])
  ·split at h
   ·rcases List.mem_cons.1 h with rfl|h
    ·exact .inl rfl
    ·exact .inr (by simp[h])
   ·rcases List.mem_cons.1 h with rfl|h
    ·exact .inl rfl
    ·exact .inr h
theorem putL_sorted {key:List UInt8} {v:Tv}:∀{l:List (List UInt8×Tv)},(keysOf l).Pairwise (fun a b=>a<b)→(keysOf (putL key v l)).Pairwise (fun a b=>a<b)
 | [],_=>by simp[putL,keysOf]
 | d::r,h=>by
  unfold keysOf at h;rw[List.map_cons,List.pairwise_cons] at h;obtain⟨h1,h2⟩:=h;unfold putL
  split
  ·rename_i hlt
   unfold keysOf;rw[List.map_cons,List.pairwise_cons];refine⟨fun x hx=>?_,putL_sorted h2⟩;obtain⟨c,hc,rfl⟩:=List.mem_map.1 hx
   rcases putL_mem hc with rfl|hc
   ·exact hlt
   ·exact h1 c.1 (List.mem_map_of_mem hc)
  ·rename_i hlt
   split
   ·rename_i he
    unfold keysOf;rw[List.map_cons,List.pairwise_cons];exact⟨fun x hx=>he ▸ h1 x hx,h2⟩
   ·rename_i he
    have hk:key<d.1:=by
     rcases ktri d.1 key with h|h|h
     ·exact absurd h hlt
     ·exact absurd h he
     ·exact h
    unfold keysOf;rw[List.map_cons,List.map_cons,List.pairwise_cons,List.pairwise_cons];refine⟨fun x hx=>?_,h1,h2⟩
    rcases List.mem_cons.1 hx with rfl|hx
    ·exact hk
    ·exact klt_trans hk (h1 x hx)
theorem putL_sum {key:List UInt8} {v:Tv} (hk:key.length≤16):∀(l:List (List UInt8×Tv)),sumT (.leaf 0 (putL key v l))≤sumT (.leaf 0 l)+35∧0<(putL key v l).length
 | []=>by
  have:=vSz_le v;unfold putL;rw[sum_leaf_cons 0 0];simp[sum_leaf,sumI_nil];omega
 | d::r=>by
  have:=vSz_le v;have ih:=putL_sum hk r (v:=v);unfold putL
  split
  ·rw[sum_leaf_cons 0 0,sum_leaf_cons 0 0 d];simp;omega
  ·split
   ·rw[sum_leaf_cons 0 0,sum_leaf_cons 0 0 d];simp;omega
   ·rw[sum_leaf_cons 0 0];simp;omega
theorem putL_ok {lo hi key:List UInt8} {v:Tv} {l:List (List UInt8×Tv)} (h:LeafOk lo hi l) (hk:keyOk key) (hlo:¬key<lo) (hhi:ltH hi key) (hv:valOk v):LeafOk lo hi (putL key v l):=
 ⟨putL_sorted h.1,fun c hc=>by
  rcases putL_mem hc with rfl|hc
  ·exact⟨hk,hlo,hhi,hv⟩
  ·exact h.2 c hc⟩
theorem wayD_spec (ks:List (List UInt8)) (key:List UInt8):∀n,wayD ks key n≤n∧(wayD ks key n=0∨¬key<ks[wayD ks key n]?.getD [])∧∀i,wayD ks key n<i→i≤n→key<ks[i]?.getD []
 | 0=>⟨Nat.le_refl _,.inl rfl,fun i h1 h2=>by simp[wayD] at h1;omega⟩
 | n+1=>by
  obtain⟨h1,h2,h3⟩:=wayD_spec ks key n;unfold wayD
  split
  ·rename_i h
   refine⟨by omega,h2,fun i a b=>?_⟩
   by_cases e:i=n+1
   ·subst e;exact h
   ·exact h3 i a (by omega)
  ·rename_i h
   exact⟨Nat.le_refl _,.inr h,fun i a b=>by omega⟩
theorem wayF_spec {ks:List (List UInt8)} {key:List UInt8} (h:ks≠[]):wayF ks key<ks.length∧(wayF ks key=0∨¬key<ks[wayF ks key]?.getD [])∧∀i,wayF ks key<i→i<ks.length→key<ks[i]?.getD []:=by
 obtain⟨h1,h2,h3⟩:=wayD_spec ks key (ks.length-1);have:=List.length_pos_iff.2 h;exact⟨by unfold wayF;omega,h2,fun i a b=>h3 i a (by omega)⟩
theorem way_focus {P:List UInt8→List UInt8→Tr→Prop} {lo hi key:List UInt8} {l:List (List UInt8×Tr)} (h:KidsP P lo hi l) (hlo:¬key<lo) (hhi:ltH hi key) :
 ∃a c b lo' hi',l=a++c::b∧a.length=wayF (keysOf l) key∧Ctx P lo hi a b c.1 lo' hi'∧P lo' hi' c.2∧¬key<lo'∧ltH hi' key:=by
 have hne:=kids_ne h;have hk:keysOf l≠[]:=by intro e;apply hne;unfold keysOf at e;simpa using e
 obtain⟨h1,h2,h3⟩:=wayF_spec (key:=key) hk;have hlen:(keysOf l).length=l.length:=by simp[keysOf]
 obtain⟨a,c,b,e,hal⟩:=list_at (l:=l) (k:=wayF (keysOf l) key) (by omega);rw[←hal] at h2 h3;rw[e] at h h2 h3 hlen;obtain⟨lo',hi',hc,hp⟩:=kids_focus h;refine⟨a,c,b,lo',hi',e,hal,hc,hp,?_,?_⟩
 ·obtain⟨q1,_,_⟩:=hc
  rcases q1 with⟨rfl,rfl⟩|⟨ha,_,_,_,rfl⟩
  ·exact hlo
  ·rcases h2 with h2|h2
   ·exact absurd (List.length_eq_zero_iff.1 h2) ha
   ·simpa[keysOf] using h2
 ·obtain⟨_,q2,_⟩:=hc
  rcases q2 with⟨rfl,rfl⟩|⟨d,r,rfl,rfl,e1,e2,e3⟩
  ·exact hhi
  ·right
   have:=h3 (a.length+1) (by omega) (by rw[hlen];simp);simpa[keysOf,List.getElem?_append_right] using this
theorem put_ok:∀{n:Nat} {lo hi key:List UInt8} {v:Tv} {t:Tr},Shape n lo hi t→sumT t≤122→(∀p l,t=.node p l→2≤l.length)→keyOk key→¬key<lo→ltH hi key→valOk v →
 Shape n lo hi (putT n t key v)∧sumT (putT n t key v)≤160∧(∀p l,putT n t key v=.leaf p l→0<l.length)
 | 0,_,_,_,_,_,h,_,_,_,_,_,_=>h.elim
 | n+1,lo,hi,key,v,.leaf p l,h,hs,_,hk,hlo,hhi,hv=>by
  obtain⟨rfl,hl⟩:=h;have h1:=putL_sum hk.2 l (v:=v);have h2:sumT (.leaf 0 l)=sumT (.leaf p l):=rfl;exact⟨⟨rfl,putL_ok hl hk hlo hhi hv⟩,by unfold putT;omega,fun q m e=>by cases e;exact h1.2⟩
 | n+1,lo,hi,key,v,.node p l,h,hs,h2,hk,hlo,hhi,hv=>by
  obtain⟨h1,h0⟩:=shape_kids h;have hl2:=h2 p l rfl;obtain⟨a,c,b,lo',hi',e,hal,hc,hp,g1,g2⟩:=way_focus h1 hlo hhi;have m7447d2:=trivial;exact q85e500
def Root (n:Nat) (t:Tr):Prop:=Shape n [] [] t∧sumT t≤122∧(∀p l,t=.node p l→2≤l.length)
theorem root_empty:Root 1 (.leaf 0 []):=⟨⟨rfl,by simp[keysOf],fun c hc=>by cases hc⟩,by decide,fun p l e=>by cases e⟩
theorem ltH_nil (k:List UInt8):ltH [] k:=.inl rfl
theorem part_two {t:Tr} (hat:atF (sizesT t)≠0):mendT 0 [([],t)] 0=.node 0 [([],(partT (atF (sizesT t)).toNat t).1),((partT (atF (sizesT t)).toNat t).2.2,(partT (atF (sizesT t)).toNat t).2.1)]:=by
 have:=splitT_at [] [] [] t;rw[if_neg hat] at this;unfold mendT;simp only[List.nil_append,List.length_nil] at this;rw[this]
theorem root_two {n:Nat} {t:Tr} (hs:Shape n [] [] t) (hsum:sumT t≤200) (hat:atF (sizesT t)≠0):Root (n+1) (mendT 0 [([],t)] 0):=by
 obtain⟨p1,p2,p3,p4,p5⟩:=part_ok hs hsum hat;rw[part_two hat];refine⟨shape_node ⟨p1,p2,p3,p4,p5⟩ rfl,?_,fun p l e=>by cases e;simp⟩;have:=p2.2;rw[sum_node_cons 0 0,sum_node_cons 0 0,sum_node_nil];simp;omega
theorem top_ok:∀{n N:Nat} {t:Tr},Shape n [] [] t→sumT t≤200→n≤N→∃m,m≤n+1∧Root m (topT N t)
 | 0,_,_,h,_,_=>h.elim
 | n+1,0,_,_,_,h=>by omega
 | n+1,N+1,.leaf p l,h,hs,hN=>by
  unfold topT
  by_cases hat:atF (sizesT (.leaf p l))=0
  ·rw[if_pos hat]
   rcases shape_parts h hs with⟨_,h1⟩|⟨m,h1,_,h3,_⟩
   ·exact⟨n+1,by omega,h,h1,fun q m e=>by cases e⟩
   ·omega
  ·rw[if_neg hat]
   exact⟨n+2,by omega,root_two h hs hat⟩
 | n+1,N+1,.node p l,h,hs,hN=>by
  unfold topT
  by_cases h1:l.length=1
  ·rw[if_pos h1]
   obtain⟨hk,h0⟩:=shape_kids h;obtain⟨c,rfl⟩:=List.length_eq_one_iff.1 h1;have hg:Good n [] [] c.2:=hk;obtain⟨m,e1,e2⟩:=top_ok (N:=N) hg.1 (by have:=hg.2.2;omega) (by omega);exact⟨m,by omega,by simpa[kidAt] using e2⟩
  ·rw[if_neg h1]
   by_cases hat:atF (sizesT (.node p l))=0
   ·rw[if_pos hat]
    rcases shape_parts h hs with⟨_,h2⟩|⟨m,h2,_,h3,_⟩
    ·refine⟨n+1,by omega,h,h2,fun q m e=>?_⟩
     cases e;have:=kids_ne (shape_kids h).1;have:=List.length_pos_iff.2 this;omega
    ·omega
   ·rw[if_neg hat]
    exact⟨n+2,by omega,root_two h hs hat⟩
def entsK (n:Nat) (l:List (List UInt8×Tr)):List (List UInt8×Tv):=l.flatMap fun c=>entsT n c.2
theorem ents_node (n:Nat) (p:Int) (l:List (List UInt8×Tr)):entsT (n+1) (.node p l)=entsK n l:=rfl
theorem ents_leaf (n:Nat) (p:Int) (l:List (List UInt8×Tv)):entsT (n+1) (.leaf p l)=l:=rfl
theorem entsK_append (n:Nat) (a b:List (List UInt8×Tr)):entsK n (a++b)=entsK n a++entsK n b:=by simp[entsK]
theorem entsK_cons (n:Nat) (c:List UInt8×Tr) (b:List (List UInt8×Tr)):entsK n (c::b)=entsT n c.2++entsK n b:=by simp[entsK]
theorem entsK_first (n:Nat) (k:List UInt8) (l:List (List UInt8×Tr)):entsK n (firstK k l)=entsK n l:=by cases l<;>simp[firstK,entsK]
theorem ents_part (n m:Nat) (t:Tr):entsT (n+1) (partT m t).1++entsT (n+1) (partT m t).2.1=entsT (n+1) t:=by
 cases t with
 | leaf p l=>simp only[partT,ents_leaf,List.take_append_drop]
 | node p l=>simp only[partT,ents_node,entsK_first,←entsK_append,List.take_append_drop]
theorem ents_join {n:Nat} {k:List UInt8} {s t:Tr} (h:s.isLeaf=t.isLeaf):entsT (n+1) (joinT k s t)=entsT (n+1) s++entsT (n+1) t:=by
 cases s<;>cases t<;>simp only[Tr.isLeaf] at h
 ·simp only[joinT,ents_leaf]
 ·cases h
 ·cases h
 ·simp only[joinT,ents_node,entsK_first,entsK_append]
theorem shape_kind {n:Nat} {lo hi:List UInt8} {t:Tr} (h:Shape n lo hi t):t.isLeaf=decide (n=1):=by
 cases n with
 | zero=>exact h.elim
 | succ n=>
  cases t with
  | leaf p l=>obtain⟨rfl,_⟩:=h;rfl
  | node p l=>
   cases n with
   | zero=>exact(kids_good0 (shape_kids h).1).elim
   | succ n=>simp[Tr.isLeaf]
theorem ents_split {n:Nat} {a b:List (List UInt8×Tr)} {k:List UInt8} {t:Tr} {m:List (List UInt8×Tr)} (h:splitT (a++(k,t)::b) a.length=some m):entsK (n+1) m=entsK (n+1) (a++(k,t)::b):=by
 rw[splitT_at] at h
 split at h
 ·cases h
 ·cases h
  have:=ents_part n (atF (sizesT t)).toNat t;rw[entsK_append,entsK_cons,entsK_cons,entsK_append,entsK_cons,←List.append_assoc (entsT (n+1) _),this]
theorem ents_mend {n:Nat} {p:Int} {a b:List (List UInt8×Tr)} {k:List UInt8} {t:Tr} (h:∀c∈a++(k,t)::b,c.2.isLeaf=t.isLeaf):entsT (n+2) (mendT p (a++(k,t)::b) a.length)=entsK (n+1) (a++(k,t)::b):=by
 unfold mendT;cases hs:splitT (a++(k,t)::b) a.length with
 | some m=>exact ents_split hs
 | none=>
  simp only
  split
  ·rfl
  ·rename_i hc
   simp only[not_or] at hc;have two:∀(a b:List (List UInt8×Tr)) (c d:List UInt8×Tr),c.2.isLeaf=d.2.isLeaf →
    entsT (n+2) (match splitT (joined (a++c::d::b) a.length) a.length with|some m=>.node 0 m|none=>.node 0 (joined (a++c::d::b) a.length))=entsK (n+1) (a++c::d::b):=by
    intro a b c d hcd;rw[joined_right];have hj:entsK (n+1) (a++(c.1,joinT d.1 c.2 d.2)::b)=entsK (n+1) (a++c::d::b):=by
     rw[entsK_append,entsK_cons,entsK_append,entsK_cons,entsK_cons,ents_join hcd,List.append_assoc]
    cases hs2:splitT (a++(c.1,joinT d.1 c.2 d.2)::b) a.length with
    | some m=>simp only;rw[ents_node,ents_split hs2,hj]
    | none=>simp only;rw[ents_node,hj]
   cases b with
   | cons d r=>
    have hj:joinAt (a++(k,t)::d::r).length a.length=a.length:=by unfold joinAt;simp
    rw[hj];exact two a r (k,t) d (h d (by simp)).symm
   | nil=>
    rcases List.eq_nil_or_concat a with rfl|⟨a',e,rfl⟩
    ·simp at hc
    ·have hj:joinAt (a'.concat e++[(k,t)]).length (a'.concat e).length=a'.length:=by unfold joinAt;simp
     have el:a'.concat e++[(k,t)]=a'++e::(k,t)::[]:=by simp
     rw[hj,el];exact two a' [] e (k,t) (h e (by simp))
theorem kids_kind {n:Nat}:∀{l:List (List UInt8×Tr)} {lo hi:List UInt8},KidsP (Good n) lo hi l→∀c∈l,c.2.isLeaf=decide (n=1)
 | [d],_,_,h,c,hc=>by simp at hc;subst hc;exact shape_kind h.1
 | d::e::r,_,_,h,c,hc=>by
  rcases List.mem_cons.1 hc with rfl|hc
  ·exact shape_kind h.1.1
  ·exact kids_kind h.2.2.2.2 c hc
theorem putL_ahead {key:List UInt8} {v:Tv} {B:List (List UInt8×Tv)}:∀{A:List (List UInt8×Tv)},(∀c∈A,c.1<key)→putL key v (A++B)=A++putL key v B
 | [],_=>rfl
 | c::A,h=>by
  show(if c.1<key then c::putL key v (A++B) else _)=_;rw[if_pos (h c (by simp)),putL_ahead (fun d hd=>h d (by simp[hd]))];rfl
theorem putL_behind {key:List UInt8} {v:Tv} {C:List (List UInt8×Tv)} (hC:∀c∈C,key<c.1):∀{B:List (List UInt8×Tv)},putL key v (B++C)=putL key v B++C
 | []=>by
  cases C with
  | nil=>rfl
  | cons d C=>
   have:=hC d (by simp);show(if d.1<key then _ else if d.1=key then _ else _)=_;rw[if_neg (klt_asymm this),if_neg (fun e=>klt_irrefl key (by rw[e] at this;exact this))];rfl
 | c::B=>by
  show(if c.1<key then c::putL key v (B++C) else if c.1=key then (key,v)::(B++C) else (key,v)::c::(B++C))=(if c.1<key then c::putL key v B else if c.1=key then (key,v)::B else (key,v)::c::B)++C
  split
  ·rw[putL_behind hC];rfl
  ·split<;>rfl
theorem ents_glue {lo k hi:List UInt8} {l m:List (List UInt8×Tv)} (h:LeafOk lo k l) (g:LeafOk k hi m) (hk:keyOk k) (hlo:lo<k) (hhi:ltH hi k):LeafOk lo hi (l++m):=by
 obtain⟨hp,hl⟩:=h;obtain⟨hq,hm⟩:=g;refine⟨?_,fun c hc=>?_⟩
 ·unfold keysOf at *
  exact q648619
 ·rcases List.mem_append.1 hc with hc|hc
  ·have:=hl c hc
   exact⟨this.1,this.2.1,hhi.of (this.2.2.1.resolve_left hk.1),this.2.2.2⟩
  ·have:=hm c hc
   exact⟨this.1,fun h=>this.2.1 (klt_trans h hlo),this.2.2.1,this.2.2.2⟩
theorem kids_ents {n:Nat} (ih:∀{lo hi:List UInt8} {t:Tr},Shape n lo hi t→LeafOk lo hi (entsT n t)):∀{l:List (List UInt8×Tr)} {lo hi:List UInt8},KidsP (Good n) lo hi l→LeafOk lo hi (entsK n l)
 | [c],lo,hi,h=>by rw[entsK_cons];simpa[entsK] using ih h.1
 | c::d::r,lo,hi,h=>by
  rw[entsK_cons];exact ents_glue (ih h.1.1) (kids_ents ih h.2.2.2.2) h.2.1 h.2.2.1 h.2.2.2.1
theorem shape_ents:∀{n:Nat} {lo hi:List UInt8} {t:Tr},Shape n lo hi t→LeafOk lo hi (entsT n t)
 | 0,_,_,_,h=>h.elim
 | _+1,_,_,.leaf _p _l,h=>h.2
 | _n+1,_lo,_hi,.node _p _l,h=>kids_ents (fun h=>shape_ents h) (shape_kids h).1
theorem ents_put:∀{n:Nat} {lo hi key:List UInt8} {v:Tv} {t:Tr},Shape n lo hi t→keyOk key→¬key<lo→ltH hi key→valOk v→sumT t≤122→(∀p l,t=.node p l→2≤l.length)→entsT n (putT n t key v)=putL key v (entsT n t)
 | 0,_,_,_,_,_,h,_,_,_,_,_,_=>h.elim
 | n+1,lo,hi,key,v,.leaf p l,h,_,_,_,_,_,_=>rfl
 | n+1,lo,hi,key,v,.node p l,h,hk,hlo,hhi,hv,hsm,h2=>by
  obtain⟨h1,h0⟩:=shape_kids h;obtain⟨a,c,b,lo',hi',e,hal,hc,hp,g1,g2⟩:=way_focus h1 hlo hhi;have hl2:=h2 p l rfl;have ih:=ents_put hp.1 hk g1 g2 hv hp.2.2 (fun q m e=>good_len (p:=q) (by rw[←e];exact hp));have mf3880a:=trivial;exact q85e500
def posK (key:List UInt8):List (List UInt8)→Nat
 | []=>0
 | k::r=>if k<key then posK key r+1 else 0
theorem posK_le (key:List UInt8):∀l,posK key l≤l.length
 | []=>Nat.le_refl _
 | k::r=>by unfold posK;split<;>simp;exact posK_le key r
theorem posK_lt {key:List UInt8}:∀{l:List (List UInt8)} {i:Nat},i<posK key l→l[i]?.getD []<key
 | [],i,h=>by simp[posK] at h
 | k::r,i,h=>by
  unfold posK at h
  split at h
  ·rename_i hk
   cases i with
   | zero=>simpa using hk
   | succ i=>simpa using posK_lt (l:=r) (i:=i) (by omega)
  ·omega
theorem posK_at {key:List UInt8}:∀{l:List (List UInt8)},posK key l<l.length→¬l[posK key l]?.getD []<key
 | [],h=>by simp at h
 | k::r,h=>by
  unfold posK at h ⊢
  split
  ·rename_i hk
   rw[if_pos hk] at h;simpa using posK_at (l:=r) (by simpa using h)
  ·rename_i hk
   simpa using hk
def hasK (key:List UInt8) (l:List (List UInt8)):Bool:=l[posK key l]? == some key
theorem putL_pos (key:List UInt8) (v:Tv):∀l:List (List UInt8×Tv),putL key v l=l.take (posK key (keysOf l))++(key,v)::l.drop (posK key (keysOf l)+(if hasK key (keysOf l) then 1 else 0))
 | []=>by simp[putL,posK,keysOf]
 | c::r=>by
  have ih:=putL_pos key v r;unfold putL
  by_cases h:c.1<key
  ·have e1:posK key (keysOf (c::r))=posK key (keysOf r)+1:=by
    show(if c.1<key then _ else _)=_;rw[if_pos h];rfl
   have e2:hasK key (keysOf (c::r))=hasK key (keysOf r):=by
    unfold hasK;rw[e1];simp[keysOf]
   rw[if_pos h,e1,e2,ih,List.take_succ_cons,show posK key (keysOf r)+1+(if hasK key (keysOf r)=true then 1 else 0)=(posK key (keysOf r)+(if hasK key (keysOf r)=true then 1 else 0))+1 by omega,List.drop_succ_cons]
   rfl
  ·have e1:posK key (keysOf (c::r))=0:=by
    show(if c.1<key then _ else _)=_;rw[if_neg h]
   rw[if_neg h,e1]
   by_cases he:c.1=key
   ·have e2:hasK key (keysOf (c::r))=true:=by
     unfold hasK;rw[e1];simp[keysOf,he]
    rw[if_pos he,e2];simp
   ·have e2:hasK key (keysOf (c::r))=false:=by
     unfold hasK;rw[e1];simp[keysOf,he]
    rw[if_neg he,e2];simp
def fitAt (lo hi:List UInt8) (leaf:Bool) (ks:List (List UInt8)) (i:Nat):Bool:=
 ((i == 0 && !leaf) == (ks[i]?.getD [] == [])) && (decide ((ks[i]?.getD []).length≤16) && ((i == 0 || decide (ks[i-1]?.getD []<ks[i]?.getD [])) && (((i == 0 && !leaf) || !decide (ks[i]?.getD []<lo)) && (hi == [] || decide (ks[i]?.getD []<hi)))))
def fitTo (lo hi:List UInt8) (leaf:Bool) (ks:List (List UInt8)) (n:Nat):Bool:=(List.range n).all (fitAt lo hi leaf ks)
theorem fitTo_succ (lo hi:List UInt8) (leaf:Bool) (ks:List (List UInt8)) (n:Nat):fitTo lo hi leaf ks (n+1)=(fitTo lo hi leaf ks n && fitAt lo hi leaf ks n):=by simp[fitTo,List.range_succ]
def valB (v:Tv):Bool:=decide (v.data.length≤400) && (v.pages.length == 0 || decide (needC (v.data.length:Int)≠0))
def fitT (lo hi:List UInt8):Tr→Bool
 | .leaf _ l=>fitTo lo hi true (keysOf l) l.length && l.all fun c=>valB c.2
 | .node _ l=>fitTo lo hi false (keysOf l) l.length
def cntT:Tr→Nat
 | .leaf _ l=>l.length
 | .node _ l=>l.length
def sizeB (root:Bool) (t:Tr):Bool:=decide ((if t.isLeaf then 1 else 2)≤cntT t) && (decide (sumT t≤122) && (root || !lowT t))
def nextH (hi:List UInt8):List (List UInt8×Tr)→List UInt8
 | []=>hi
 | d::_=>d.1
def depK (f:Tr→List UInt8→List UInt8→Option Nat) (lo hi:List UInt8):Nat→Nat→List (List UInt8×Tr)→Option Nat
 | _,far,[]=>some far
 | i,far,c::r=>match f c.2 (if i=0 then lo else c.1) (nextH hi r) with
  | none=>none
  | some d=>if i≠0∧d+1≠far then none else depK f lo hi (i+1) (d+1) r
def depthT:Nat→Tr→List UInt8→List UInt8→Bool→Option Nat
 | 0,_,_,_,_=>none
 | _+1,.leaf p l,lo,hi,root=>if fitT lo hi (.leaf p l) && sizeB root (.leaf p l) then some 0 else none
 | n+1,.node p l,lo,hi,root=>if fitT lo hi (.node p l) && sizeB root (.node p l) then depK (fun t lo hi=>depthT n t lo hi false) lo hi 0 0 l else none
def emptyB:Tr→Bool
 | .leaf p l=>p == 0 && l.isEmpty
 | .node _ _=>false
def checkT (n:Nat) (t:Tr):Bool:=emptyB t || (depthT n t [] [] true).isSome
theorem kids_all {P:List UInt8→List UInt8→Tr→Prop}:∀{r:List (List UInt8×Tr)} {c:List UInt8×Tr} {lo hi:List UInt8},KidsP P lo hi (c::r)→(keysOf r).Pairwise (fun a b=>a<b)∧∀d∈r,keyOk d.1∧lo<d.1∧ltH hi d.1
 | [],_,_,_,_=>⟨List.Pairwise.nil,fun d hd=>by cases hd⟩
 | e::r,c,lo,hi,h=>by
  obtain⟨h1,h2⟩:=kids_all h.2.2.2.2;refine⟨?_,fun d hd=>?_⟩
  ·unfold keysOf
   rw[List.map_cons,List.pairwise_cons];refine⟨fun x hx=>?_,h1⟩;obtain⟨d,hd,rfl⟩:=List.mem_map.1 hx;exact(h2 d hd).2.1
  ·rcases List.mem_cons.1 hd with rfl|hd
   ·exact⟨h.2.1,h.2.2.1,h.2.2.2.1⟩
   ·have:=h2 d hd
    exact⟨this.1,klt_trans h.2.2.1 this.2.1,this.2.2⟩
theorem pair_get {l:List (List UInt8)} (h:l.Pairwise (fun a b=>a<b)) {i j:Nat} (hij:i<j) (hj:j<l.length):l[i]?.getD []<l[j]?.getD []:=by
 rw[List.getElem?_eq_getElem (by omega),List.getElem?_eq_getElem hj];exact List.pairwise_iff_getElem.1 h i j (by omega) hj hij
theorem leaf_fit {lo hi:List UInt8} {p:Int} {l:List (List UInt8×Tv)} (h:LeafOk lo hi l):fitT lo hi (.leaf p l)=true:=by
 obtain⟨hp,hl⟩:=h;have hlen:(keysOf l).length=l.length:=by simp[keysOf]
 simp only[fitT,Bool.and_eq_true];refine⟨?_,?_⟩
 ·unfold fitTo
  rw[List.all_eq_true];intro i hi';rw[List.mem_range] at hi';have hk:(keysOf l)[i]?.getD []=(l[i]'hi').1:=by simp[keysOf,hi']
  obtain⟨c1,c2,c3,c4⟩:=hl (l[i]'hi') (List.getElem_mem hi');have hpr:i=0∨(keysOf l)[i-1]?.getD []<(keysOf l)[i]?.getD []:=by
   by_cases h0:i=0
   ·exact .inl h0
   ·exact .inr (pair_get hp (by omega) (by omega))
  rw[hk] at hpr;unfold fitAt;rw[hk];have n1:((l[i]'hi').1 == [])=false:=by simpa using c1.1
  rw[n1];have n2:decide ((l[i]'hi').1.length≤16)=true:=by simpa using c1.2
  have n3:decide ((l[i]'hi').1<lo)=false:=by simpa using c2
  have n4:(hi == [] || decide ((l[i]'hi').1<hi))=true:=by
   rcases c3 with rfl|c3
   ·rfl
   ·simp[c3]
  have n5:(i == 0 || decide ((keysOf l)[i-1]?.getD []<(l[i]'hi').1))=true:=by
   rcases hpr with h|h
   ·simp[h]
   ·simp[h]
  rw[n2,n3,n4,n5];simp
 ·rw[List.all_eq_true]
  intro c hc;obtain⟨c1,c2,c3,c4,c5⟩:=hl c hc;unfold valB
  by_cases h0:c.2.pages=[]
  ·simp[h0,c4]
  ·have h16:=c5 h0
   have:needC (c.2.data.length:Int)≠0:=by
    unfold needC;rw[if_neg (by omega)];omega
   simp[c4,this]
theorem node_fit {P:List UInt8→List UInt8→Tr→Prop} {lo hi:List UInt8} {p:Int} {l:List (List UInt8×Tr)} (h:KidsP P lo hi l) (h0:keyAt l 0=[]):fitT lo hi (.node p l)=true:=by
 cases l with
 | nil=>exact h.elim
 | cons c r=>
  have c0:c.1=[]:=by simpa[keyAt] using h0
  obtain⟨q1,q2⟩:=kids_all h;simp only[fitT];unfold fitTo;rw[List.all_eq_true];intro i hi';rw[List.mem_range] at hi';cases i with
  | zero=>
   unfold fitAt;have hk:(keysOf (c::r))[0]?.getD []=[]:=by simp[keysOf,c0]
   rw[hk]
   by_cases hh:hi=[]
   ·simp[hh]
   ·have:=knil_lt hh
    simp[this]
  | succ i=>
   have hir:i<r.length:=by simpa using hi'
   have hk:(keysOf (c::r))[i+1]?.getD []=(r[i]'hir).1:=by simp[keysOf,hir]
   obtain⟨c1,c2,c3⟩:=q2 (r[i]'hir) (List.getElem_mem hir);have hpr:(keysOf (c::r))[i]?.getD []<(r[i]'hir).1:=by
    cases i with
    | zero=>
     have:(keysOf (c::r))[0]?.getD []=[]:=by simp[keysOf,c0]
     rw[this];exact knil_lt c1.1
    | succ j=>
     have:=pair_get q1 (i:=j) (j:=j+1) (by omega) (by simp[keysOf];omega);have e1:(keysOf (c::r))[j+1]?.getD []=(keysOf r)[j]?.getD []:=by simp[keysOf]
     have e2:(keysOf r)[j+1]?.getD []=(r[j+1]'hir).1:=by simp[keysOf,hir]
     rw[e1,←e2];exact this
   unfold fitAt;rw[hk];have n1:((r[i]'hir).1 == [])=false:=by simpa using c1.1
   have n2:=c1.2;have n3:¬(r[i]'hir).1<lo:=klt_asymm c2;rw[n1]
   rcases c3 with rfl|c3<;>simp_all
theorem depK_ok {n:Nat} {f:Tr→List UInt8→List UInt8→Option Nat} (hf:∀lo hi t,Good n lo hi t→f t lo hi=some (n-1)) (hn:1≤n) {lo0:List UInt8}:∀{r:List (List UInt8×Tr)} {c:List UInt8×Tr} {lo hi:List UInt8} {i far:Nat},KidsP (Good n) lo hi (c::r)→(i=0∧lo=lo0∨i≠0∧c.1=lo∧far=n)→depK f lo0 hi i far (c::r)=some n
 | [],c,lo,hi,i,far,h,hi'=>by
  have e:(if i=0 then lo0 else c.1)=lo:=by
   rcases hi' with⟨rfl,rfl⟩|⟨h0,h1,_⟩
   ·rfl
   ·rw[if_neg h0,h1]
  unfold depK;rw[e];show(match f c.2 lo hi with|none=>none|some d=>_)=_;rw[hf lo hi c.2 h];simp only;rw[if_neg (by rcases hi' with⟨rfl,_⟩|⟨_,_,h2⟩<;>omega)];unfold depK
  congr 1
  omega
 | d::r,c,lo,hi,i,far,h,hi'=>by
  have e:(if i=0 then lo0 else c.1)=lo:=by
   rcases hi' with⟨rfl,rfl⟩|⟨h0,h1,_⟩
   ·rfl
   ·rw[if_neg h0,h1]
  unfold depK;rw[e];show(match f c.2 lo d.1 with|none=>none|some d=>_)=_;rw[hf lo d.1 c.2 h.1];simp only;rw[if_neg (by rcases hi' with⟨rfl,_⟩|⟨_,_,h2⟩<;>omega)];exact depK_ok hf hn h.2.2.2.2 (.inr ⟨by omega,rfl,by omega⟩)
theorem depth_ok:∀{n N:Nat} {lo hi:List UInt8} {t:Tr} {root:Bool},Shape n lo hi t→n≤N→sizeB root t=true→depthT N t lo hi root=some (n-1)
 | 0,_,_,_,_,_,h,_,_=>h.elim
 | n+1,0,_,_,_,_,_,h,_=>by omega
 | n+1,N+1,lo,hi,.leaf p l,root,h,hN,hs=>by
  obtain⟨rfl,hl⟩:=h;unfold depthT;rw[leaf_fit hl,hs];rfl
 | n+1,N+1,lo,hi,.node p l,root,h,hN,hs=>by
  obtain⟨h1,h0⟩:=shape_kids h;unfold depthT;rw[node_fit h1 h0,hs];have hn1:1≤n:=by
   cases n with
   | zero=>exact(kids_good0 h1).elim
   | succ n=>omega
  cases l with
  | nil=>exact h1.elim
  | cons c r=>
   rw[Bool.and_self,if_pos rfl,depK_ok (n:=n) (fun lo hi t hg=>depth_ok hg.1 (by omega) (by
    have h30:=hg.2.1;have h122:=hg.2.2;unfold sizeB lowT;have hc:(if t.isLeaf=true then 1 else 2)≤cntT t:=by
     cases t with
     | leaf p l=>
      have:l≠[]:=by intro e;subst e;simp[sum_leaf,sumI_nil] at h30
      have:=List.length_pos_iff.2 this;simp[Tr.isLeaf,cntT];omega
     | node p l=>simpa[Tr.isLeaf,cntT] using good_len hg
    simp[hc,h122,h30])) hn1 h1 (.inl ⟨rfl,rfl⟩)]
   rfl
theorem check_ok {n N:Nat} {t:Tr} (h:Root n t) (hN:n≤N) (he:emptyB t=true∨0<cntT t):checkT N t=true:=by
 unfold checkT
 rcases he with he|he
 ·rw[he];rfl
 ·rw[depth_ok h.1 hN (by
   unfold sizeB;have h122:=h.2.1;have hc:(if t.isLeaf=true then 1 else 2)≤cntT t:=by
    cases t with
    | leaf p l=>simp only[Tr.isLeaf,cntT,if_true] at he ⊢;omega
    | node p l=>simpa[Tr.isLeaf,cntT] using h.2.2 p l rfl
   simp[hc,h122])]
  simp
end Go.Proofs.YtpghlmcoajaiiaaGreatDoor
