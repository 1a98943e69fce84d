/- Texts that other texts of this claim lean on, one behind the other. -/
import Derived.Test.YtpghlmcoajaiiaaGreatDoorB5
import Derived.Test.YtpghlmcoajaiiaaGreatDoorB1
import Derived.Test.YtpghlmcoajaiiaaGreatDoorB4
import Derived.Deep.RegionHeld3
import Derived.Deep.DeepCutAuto
import Derived.RangeFuncNested
import Derived.RangeFuncBound
import Derived.RangeFuncCalls
import Derived.RangeFuncLeaves
import Derived.RangeFuncBox
import Derived.Shelf.Abstract
import Derived.Shelf.RegionOpen
import Derived.WalkKit
import Derived.OwnWalkIn
import Derived.TacticsInMore
import Derived.LoopNIn
import Derived.LoopIn
import Derived.Deep.RegionHeld
import Derived.Test.YtpghlmcoajaiiaaGreatDoorB2
import Derived.OwnWalk
import Derived.WalkLawsBesides
import Derived.WalkSmall
import Derived.Test.YtpghlmcoajaiiaaGreatDoorB3
import Derived.Deep.LoopGhost
set_option maxHeartbeats 20000000
set_option maxRecDepth 100000
namespace Go.Proofs.YtpghlmcoajaiiaaGreatDoor
open Go.RowKit
structure Rc where
 key:List UInt8
 val:Tv
 kid:Option Tr
def cellsR:Tr→List Rc
 | .leaf _ l=>l.map fun c=>⟨c.1,c.2,none⟩
 | .node _ l=>l.map fun c=>⟨c.1,⟨[],[]⟩,some c.2⟩
theorem cellsR_len (t:Tr):(cellsR t).length=cntT t:=by cases t<;>simp[cellsR,cntT]
theorem cellsR_leaf (p:Int) (l:List (List UInt8×Tv)) (i:Nat):(cellsR (.leaf p l))[i]? = (l[i]?).map fun c=>⟨c.1,c.2,none⟩:=by simp[cellsR]
theorem cellsR_node (p:Int) (l:List (List UInt8×Tr)) (i:Nat):(cellsR (.node p l))[i]? = (l[i]?).map fun c=>⟨c.1,⟨[],[]⟩,some c.2⟩:=by simp[cellsR]
def RNodeOn (F:Nat→Prop):Nat→World→List Value→Tr→Prop
 | 0,_,_,_=>False
 | n+1,w,cs,t=>∃a c,cs=[.int .i64 t.page,.bool t.isLeaf,.slice a (cntT t) c]∧TabR 4 (fun cs (y:Rc)=>∃pa pn pc ka kn kc,cs=[.string (strOf y.key),.string (strOf y.val.data),.slice pa pn pc,.slice ka kn kc]∧Row .i64 w pa pn pc y.val.pages∧Fa F pa pn∧TabR 3 (RNodeOn F n w) w ka kn kc y.kid.toList∧Fa F ka kn) w a (cntT t) c (cellsR t)∧Fa F a (cntT t)
def RcOn (F:Nat→Prop) (n:Nat) (w:World) (cs:List Value) (y:Rc):Prop:=∃pa pn pc ka kn kc,cs=[.string (strOf y.key),.string (strOf y.val.data),.slice pa pn pc,.slice ka kn kc]∧Row .i64 w pa pn pc y.val.pages∧Fa F pa pn∧TabR 3 (RNodeOn F n w) w ka kn kc y.kid.toList∧Fa F ka kn
theorem RNodeOn.at {F:Nat→Prop} {n:Nat} {w:World} {cs:List Value} {t:Tr} (h:RNodeOn F (n+1) w cs t):∃a c,cs=[.int .i64 t.page,.bool t.isLeaf,.slice a (cntT t) c]∧TabR 4 (RcOn F n w) w a (cntT t) c (cellsR t)∧Fa F a (cntT t):=h
theorem RNodeOn.mk {F:Nat→Prop} {n:Nat} {w:World} {t:Tr} {a:Option Addr} {c:Nat} (h:TabR 4 (RcOn F n w) w a (cntT t) c (cellsR t)) (hf:Fa F a (cntT t)):RNodeOn F (n+1) w [.int .i64 t.page,.bool t.isLeaf,.slice a (cntT t) c] t:=⟨a,c,rfl,h,hf⟩
theorem RcOn.agree' {F:Nat→Prop} {n:Nat} {w w':World} (H:∀{cs:List Value} {t:Tr},RNodeOn F n w cs t→RNodeOn F n w' cs t) (ha:AgreeF F w w') {cs:List Value} {y:Rc} (h:RcOn F n w cs y):RcOn F n w' cs y:=by
 obtain⟨pa,pn,pc,ka,kn,kc,e,h1,f1,h2,f2⟩:=h;exact⟨pa,pn,pc,ka,kn,kc,e,h1.agree f1 ha,f1,TabR.agree h2 f2 ha (fun _ _ _ h=>H h),f2⟩
theorem RNodeOn.agree {F:Nat→Prop}:∀{n:Nat} {w w':World} {cs:List Value} {t:Tr},RNodeOn F n w cs t→AgreeF F w w'→RNodeOn F n w' cs t
 | 0,_,_,_,_,h,_=>h.elim
 | n+1,_,_,_,t,h,ha=>by
  obtain⟨a,c,e,h1,f1⟩:=h.at;exact⟨a,c,e,TabR.agree h1 f1 ha (fun _ _ _ h=>RcOn.agree' (fun h=>RNodeOn.agree h ha) ha h),f1⟩
theorem RcOn.agree {F:Nat→Prop} {n:Nat} {w w':World} {cs:List Value} {y:Rc} (h:RcOn F n w cs y) (ha:AgreeF F w w'):RcOn F n w' cs y:=RcOn.agree' (fun h=>h.agree ha) ha h
theorem RNodeOn.below {F:Nat→Prop} {n:Nat} {w w':World} {cs:List Value} {t:Tr} (h:RNodeOn F n w cs t) (hb:Below w.heap.size w w'):RNodeOn F n w' cs t:=h.agree (.of_below hb)
theorem RcOn.below {F:Nat→Prop} {n:Nat} {w w':World} {cs:List Value} {y:Rc} (h:RcOn F n w cs y) (hb:Below w.heap.size w w'):RcOn F n w' cs y:=h.agree (.of_below hb)
theorem RcOn.mono' {F G:Nat→Prop} (hFG:∀b,F b→G b) {n:Nat} {w:World} (H:∀{cs:List Value} {t:Tr},RNodeOn F n w cs t→RNodeOn G n w cs t) {cs:List Value} {y:Rc} (h:RcOn F n w cs y):RcOn G n w cs y:=by
 obtain⟨pa,pn,pc,ka,kn,kc,e,h1,f1,h2,f2⟩:=h;exact⟨pa,pn,pc,ka,kn,kc,e,h1,f1.mono hFG,TabR.mono h2 (fun _ _ h=>H h),f2.mono hFG⟩
theorem RNodeOn.mono {F G:Nat→Prop} (hFG:∀b,F b→G b):∀{n:Nat} {w:World} {cs:List Value} {t:Tr},RNodeOn F n w cs t→RNodeOn G n w cs t
 | 0,_,_,_,h=>h.elim
 | n+1,_,_,t,h=>by
  obtain⟨a,c,e,h1,f1⟩:=h.at;exact⟨a,c,e,TabR.mono h1 (fun _ _ h=>RcOn.mono' hFG (fun h=>RNodeOn.mono hFG h) h),f1.mono hFG⟩
theorem RcOn.mono {F G:Nat→Prop} (hFG:∀b,F b→G b) {n:Nat} {w:World} {cs:List Value} {y:Rc} (h:RcOn F n w cs y):RcOn G n w cs y:=RcOn.mono' hFG (fun h=>h.mono hFG) h
theorem RcOn.lt' {F:Nat→Prop} {n:Nat} {w:World} (H:∀{cs:List Value} {t:Tr},RNodeOn F n w cs t→RNodeOn (fun b=>F b∧b<w.heap.size) n w cs t) {cs:List Value} {y:Rc} (h:RcOn F n w cs y):RcOn (fun b=>F b∧b<w.heap.size) n w cs y:=by
 obtain⟨pa,pn,pc,ka,kn,kc,e,h1,f1,h2,f2⟩:=h;exact⟨pa,pn,pc,ka,kn,kc,e,h1,f1.and h1.block,TabR.mono h2 (fun _ _ h=>H h),f2.and h2.block⟩
theorem RNodeOn.lt {F:Nat→Prop}:∀{n:Nat} {w:World} {cs:List Value} {t:Tr},RNodeOn F n w cs t→RNodeOn (fun b=>F b∧b<w.heap.size) n w cs t
 | 0,_,_,_,h=>h.elim
 | n+1,_,_,t,h=>by
  obtain⟨a,c,e,h1,f1⟩:=h.at;exact⟨a,c,e,TabR.mono h1 (fun _ _ h=>RcOn.lt' (fun h=>RNodeOn.lt h) h),f1.and h1.block⟩
theorem RcOn.lt {F:Nat→Prop} {n:Nat} {w:World} {cs:List Value} {y:Rc} (h:RcOn F n w cs y):RcOn (fun b=>F b∧b<w.heap.size) n w cs y:=RcOn.lt' (fun h=>h.lt) h
theorem RcOn.more' {F:Nat→Prop} {n m:Nat} {w:World} (H:∀{cs:List Value} {t:Tr},RNodeOn F n w cs t→RNodeOn F m w cs t) {cs:List Value} {y:Rc} (h:RcOn F n w cs y):RcOn F m w cs y:=by
 obtain⟨pa,pn,pc,ka,kn,kc,e,h1,f1,h2,f2⟩:=h;exact⟨pa,pn,pc,ka,kn,kc,e,h1,f1,TabR.mono h2 (fun _ _ h=>H h),f2⟩
theorem RNodeOn.more {F:Nat→Prop}:∀{n m:Nat} {w:World} {cs:List Value} {t:Tr},RNodeOn F n w cs t→n≤m→RNodeOn F m w cs t
 | 0,_,_,_,_,h,_=>h.elim
 | n+1,0,_,_,_,_,h=>by omega
 | n+1,m+1,_,_,t,h,hm=>by
  obtain⟨a,c,e,h1,f1⟩:=h.at;exact⟨a,c,e,TabR.mono h1 (fun _ _ h=>RcOn.more' (fun h=>RNodeOn.more h (by omega)) h),f1⟩
theorem RcOn.one {F:Nat→Prop} {n:Nat} {w:World} {cs:List Value} {y:Rc} (h:RcOn F n w cs y):∀u∈cs,u.oneCell'=true:=by
 obtain⟨pa,pn,pc,ka,kn,kc,rfl,_⟩:=h;intro u hu;simp at hu
 rcases hu with rfl|rfl|rfl|rfl<;>rfl
theorem RcOn.len {F:Nat→Prop} {n:Nat} {w:World} {cs:List Value} {y:Rc} (h:RcOn F n w cs y):cs.length=4:=by
 obtain⟨pa,pn,pc,ka,kn,kc,rfl,_⟩:=h
 rfl
theorem RNodeOn.one {F:Nat→Prop} {n:Nat} {w:World} {cs:List Value} {t:Tr} (h:RNodeOn F n w cs t):∀u∈cs,u.oneCell'=true:=by
 cases n with
 | zero=>exact h.elim
 | succ n=>
  obtain⟨a,c,rfl,_⟩:=h.at;intro u hu;simp at hu
  rcases hu with rfl|rfl|rfl<;>rfl
def RNodeTo (F:Nat→Prop) (n:Nat) (w:World) (t:Tr) (e:Ending) (w':World):Prop:=∃cs,e=.returned (.agg cs.toArray)∧RNodeOn (Fr F w) n w' cs t∧Below w.heap.size w w'
theorem RNodeOn.cell {F:Nat→Prop} {n:Nat} {w:World} {a:Option Addr} {m c:Nat} {l:List Rc} (h:TabR 4 (RcOn F n w) w a m c l) {k:Nat} (hk:k<m) :
 ∃b off y pa pn pc ka kn kc,a=some ⟨b,off,none⟩∧b<w.heap.size∧l[k]? = some y∧RcOn F n w [.string (strOf y.key),.string (strOf y.val.data),.slice pa pn pc,.slice ka kn kc] y∧Row .i64 w pa pn pc y.val.pages∧Fa F pa pn∧TabR 3 (RNodeOn F n w) w ka kn kc y.kid.toList∧Fa F ka kn ∧
  w.cell? ⟨b,off+k*4,none⟩=some (.string (strOf y.key))∧w.cell? ⟨b,off+k*4+1,none⟩=some (.string (strOf y.val.data))∧w.cell? ⟨b,off+k*4+2,none⟩=some (.slice pa pn pc)∧w.cell? ⟨b,off+k*4+3,none⟩=some (.slice ka kn kc):=by
 obtain⟨b,off,y,cs,e1,e2,e3,_,hy,e6⟩:=TabR.at h hk;obtain⟨pa,pn,pc,ka,kn,kc,rfl,h1,f1,h2,f2⟩:=hy;exact⟨b,off,y,pa,pn,pc,ka,kn,kc,e1,e2,e3,⟨pa,pn,pc,ka,kn,kc,rfl,h1,f1,h2,f2⟩,h1,f1,h2,f2,e6 0 _ rfl,e6 1 _ rfl,e6 2 _ rfl,e6 3 _ rfl⟩
theorem AgreeF.sub {F G:Nat→Prop} {w w':World} (h:AgreeF F w w') (hG:∀b,G b→F b):AgreeF G w w':=⟨h.1,fun b hb hlt=>h.2 b (hG b hb) hlt⟩
def Gp (F:Nat→Prop) (B:Nat) (v:Value) (b:Nat):Prop:=(F b∨B≤b)∧v.ownBlock≠some b
def CellsOwn (E:TypeId) (F:Nat→Prop) (n B:Nat) (w:World) (v:Value) (l:List Rc):Prop:=∃L:List (Cl 4),w.ownsRow B E 4 v l.length (flatC L)∧Tells (RcOn (Gp F B v) n w) L l
theorem CellsOwn.nil (E:TypeId) (F:Nat→Prop) (n B:Nat) (w:World):CellsOwn E F n B w (.slice none 0 0) []:=⟨[],own_nil w E 4 B,Tells.nil⟩
theorem CellsOwn.below {E:TypeId} {F:Nat→Prop} {n B:Nat} {w w':World} {v:Value} {l:List Rc} (h:CellsOwn E F n B w v l) (hb:Below w.heap.size w w'):CellsOwn E F n B w' v l:=by
 obtain⟨L,h1,h2⟩:=h;exact⟨L,own_held h1 hb,h2.mono (fun _ _ _ h=>h.below hb)⟩
theorem CellsOwn.set {E:TypeId} {F:Nat→Prop} {n B:Nat} {w:World} {v:Value} {l:List Rc} (h:CellsOwn E F n B w v l) {p:Addr} (u:Value) (hp:p.block<B) (hF:¬F p.block):CellsOwn E F n B (w.setCell p u) v l:=by
 obtain⟨L,h1,h2⟩:=h;refine⟨L,own_set h1 p u (fun e=>?_),h2.mono (fun _ _ _ h=>h.agree (AgreeF.set ⟨Nat.le_refl _,fun _ _ _=>rfl⟩ (.inl fun hg=>?_)))⟩
 ·have:=own_ge h1 _ e;omega
 ·rcases hg.1 with hg|hg
  ·exact hF hg
  ·omega
theorem CellsOwn.block {E:TypeId} {F:Nat→Prop} {n B:Nat} {w:World} {v:Value} {l:List Rc} (h:CellsOwn E F n B w v l) {b:Nat} (hb:v.ownBlock=some b):B≤b∧b<w.heap.size:=by
 exact qbb2c82
theorem CellsOwn.sl {E:TypeId} {F:Nat→Prop} {n B:Nat} {w:World} {v:Value} {l:List Rc} (h:CellsOwn E F n B w v l) :
 ∃a c,v=.slice a l.length c∧l.length≤c∧c≤9223372036854775807∧TabR 4 (RcOn (Gp F B v) n w) w a l.length c l∧Fa (fun b=>B≤b) a l.length:=by
 exact q6907ba
theorem CellsOwn.node {E:TypeId} {F:Nat→Prop} {n B:Nat} {w W:World} {v:Value} {t:Tr} (h:CellsOwn E F n B W v (cellsR t)) (hB:w.heap.size≤B):RNodeOn (Fr F w) (n+1) W [.int .i64 t.page,.bool t.isLeaf,v] t:=by
 obtain⟨a,c,rfl,_,_,h1,h2⟩:=h.sl;rw[cellsR_len] at h1 h2 ⊢;exact RNodeOn.mk (TabR.mono h1 (fun _ _ h=>h.mono (fun b hb=>hb.1.imp id (fun h=>Nat.le_trans hB h)))) (h2.mono (fun b hb=>.inr (Nat.le_trans hB hb)))
theorem CellsOwn.append {P:Program} {E t:TypeId} (ht:P.underlying t=some (.slice E)) (hi:RowInfo P E 4 80) {F:Nat→Prop} {n B:Nat} {w:World} {v:Value} {l:List Rc} (h:CellsOwn E F n B w v l) (hB:B≤w.heap.size) (_hF:∀b,F b→b<B) (hl:l.length≤100000) {cs:List Value} {y:Rc} (hy:RcOn (Gp F B v) n w cs y) :
 ∃v' w',(Builtin.append_ #[t,t] t #[v,.slice (some ⟨w.heap.size,0,none⟩) 1 1]).run P (w.alloc (.cells cs.toArray E))=.ok v' w'∧CellsOwn E F n B w' v' (l++[y])∧w.grownBy w' v.ownBlock:=by
 obtain⟨L,h1,h2⟩:=h;obtain⟨i,z,i1,i2,i3,i4,i5⟩:=hi;obtain⟨v',w',hr,ho,hg,hv⟩:=run_append_new (P:=P) B t E i z 4 80 ht i1 i2 i3 i4 i5 (by decide) h1 cs.toArray (by simpa using hy.len) (by simpa using hy.one) (by unfold maxLen;omega) (by omega) hB;refine⟨v',w',hr,⟨L++[⟨cs,hy.len,hy.one⟩],?_,?_⟩,hg⟩
 ·have e:flatC (L++[⟨cs,hy.len,hy.one⟩])=flatC L++cs:=by rw[flatC_append];exact congrArg (flatC L++·) (List.append_nil cs)
  rw[e,List.length_append];exact ho
 ·have hag:AgreeF (fun b=>v.ownBlock≠some b) w w':=⟨hg.size,fun b hb hlt=>hg.block b hlt (fun e=>hb e.symm)⟩
  have step:∀{cs:List Value} {y:Rc},RcOn (Gp F B v) n w cs y→RcOn (Gp F B v') n w' cs y:=fun h=>
   (h.lt.agree (hag.sub (fun b hb=>hb.1.2))).mono (fun b hb=>⟨hb.1.1,fun e=>by
    rcases hv with hv|hv
    ·rw[hv] at e;exact hb.1.2 e
    ·rw[hv] at e;have:=Option.some.inj e;have:=hb.2;omega⟩)
  exact(h2.mono (fun _ _ _ h=>step h)).append (Tells.one (step hy))
open Go.RowKit
theorem bytes_lessT:∀(x y:List UInt8),Op.bytesLess x y=decide (x<y)
 | [],[]=>by simp[Op.bytesLess]
 | _::_,[]=>by simp[Op.bytesLess]
 | [],_::_=>by simp[Op.bytesLess]
 | a::x,b::y=>by
  rw[Op.bytesLess,bytes_lessT x y];simp only[List.cons_lt_cons_iff]
  by_cases h1:a<b<;>by_cases h2:a=b<;>by_cases h3:x<y<;>simp[h1,h2,h3]
theorem cmp_lt {a b:List UInt8} (h:a<b):Op.bytesLess (strOf a).toList (strOf b).toList=true∧((strOf a).toList == (strOf b).toList)=false∧Op.bytesLess (strOf b).toList (strOf a).toList=false∧((strOf b).toList == (strOf a).toList)=false:=by
 have hne:a≠b:=fun e=>by subst e;exact klt_irrefl _ h
 rw[strOf_toList,strOf_toList,bytes_lessT,bytes_lessT];exact⟨by simpa using h,by simpa using hne,by simpa using klt_asymm h,by simpa using fun e=>hne e.symm⟩
theorem cmp_eq (a:List UInt8):Op.bytesLess (strOf a).toList (strOf a).toList=false∧((strOf a).toList == (strOf a).toList)=true:=by
 rw[strOf_toList,bytes_lessT];exact⟨by simp,by simp⟩
theorem str_empty {k:List UInt8} (h:k=[]):(strOf k).toList=[]∧(strOf k).toList.isEmpty=true:=by rw[strOf_toList,h];exact⟨rfl,rfl⟩
theorem str_some {k:List UInt8} (h:k≠[]):¬(strOf k).toList=[]∧(strOf k).toList.isEmpty=false:=by
 rw[strOf_toList];exact⟨h,by cases k with
  | nil=>exact absurd rfl h
  | cons a r=>rfl⟩
theorem cmp_lt2 {a b:List UInt8} (h:a<b):¬(strOf a).toList=(strOf b).toList∧¬(strOf b).toList=(strOf a).toList:=by
 rw[strOf_toList,strOf_toList];exact⟨fun e=>by subst e;exact klt_irrefl _ h,fun e=>by subst e;exact klt_irrefl _ h⟩
open Go.RowKit
theorem NodeIn.openK {n:Nat} {w:World} {cs:List Value} {t:Tr} (h:NodeIn (n+1) w cs t) :
 ∃ka kc va vn vc ca cn cc V C,cs=[.int .i64 t.page,.bool t.isLeaf,.slice ka (cntT t) kc,.slice va vn vc,.slice ca cn cc]∧Raw 1 w ka (cntT t) kc (t.keys.map kCell)∧Raw 2 w va vn vc V∧Raw 5 w ca cn cc C∧NodeR n w (t.keys.map kCell) V C t:=by
 obtain⟨ka,kn,kc,va,vn,vc,ca,cn,cc,K,V,C,e,h1,h2,h3,h4⟩:=h.open;obtain rfl:=h4.keys.keys;have:=h1.1;rw[List.length_map,keys_len] at this;subst this;exact⟨ka,kc,va,vn,vc,ca,cn,cc,V,C,e,h1,h2,h3,h4⟩
open Go.RowKit
open Go.RowKit
open Go.RowKit
theorem Boxes.swap {w:World} {x y:Nat×List Value} {l:List (Nat×List Value)} (h:Boxes w (x::y::l)):Boxes w (y::x::l):=
 h.sub fun p hp=>by simp only[List.mem_cons] at hp ⊢;rcases hp with e|e|e<;>simp[e]
def set5 (w:World) (b:Nat) (y0 y1 y2 y3 y4:Value):World:=((((w.setCell ⟨b,0,none⟩ y0).setCell ⟨b,1,none⟩ y1).setCell ⟨b,2,none⟩ y2).setCell ⟨b,3,none⟩ y3).setCell ⟨b,4,none⟩ y4
theorem set5_box {w:World} {b:Nat} {x0 x1 x2 x3 x4:Value} {l:List (Nat×List Value)} (h:Boxes w ((b,[x0,x1,x2,x3,x4])::l)) (hl:∀p∈l,p.1≠b) (y0 y1 y2 y3 y4:Value):Boxes (set5 w b y0 y1 y2 y3 y4) ((b,[y0,y1,y2,y3,y4])::l):=
 ((((h.put 0 y0 hl).put 1 y1 hl).put 2 y2 hl).put 3 y3 hl).put 4 y4 hl
theorem set5_below {B:Nat} {a w:World} (h:Below B a w) {b:Nat} (hb:B≤b) (y0 y1 y2 y3 y4:Value):Below B a (set5 w b y0 y1 y2 y3 y4):=
 ((((h.setCell hb _).setCell hb _).setCell hb _).setCell hb _).setCell hb _
theorem Raw.nil0 (sz:Nat) (w:World):Raw sz w none 0 0 []:=⟨rfl,Nat.le_refl _,by unfold maxLen;omega,fun _=>rfl,.inl rfl⟩
open Go.RowKit
open Go.RowKit
theorem neighbour_any (m k:Int) (w:World) (_hm:0≤m∧m≤1000) (hk:0≤k∧k≤1000) :
 Calls Tryz.prog 191 #[.int .i64 m,.int .i64 k] w fun e w'=>e=.returned (.int .i64 (neighF m k))∧w=w':=by
 by_cases h:k+1<m
 ·go_enter Tryz.func191,Tryz.ntmps191
  exact q2848ab
 ·go_enter Tryz.func191,Tryz.ntmps191
  exact q2848ab
theorem refNeighbour_any (m k:Int) (w:World) (_hm:0≤m∧m≤1000) (hk:0≤k∧k≤1000) :
 Calls Tryz.prog 166 #[.int .i64 m,.int .i64 k] w fun e w'=>e=.returned (.int .i64 (neighF m k))∧w=w':=by
 by_cases h:k+1<m
 ·go_enter Tryz.func166,Tryz.ntmps166
  exact q2848ab
 ·go_enter Tryz.func166,Tryz.ntmps166
  exact q2848ab
theorem sum_any (a:Option Addr) (len cap:Nat) (l:List Int) (w:World) (hr:Row .i64 w a len cap l) (hs:Small l) :
 Calls Tryz.prog 143 #[.slice a len cap] w fun e w'=>e=.returned (.int .i64 (sumI l))∧w=w':=by
 obtain⟨h1,h2,h3,hnn,h4⟩:=hr;unfold maxLen at h3;subst h1;go_enter Tryz.func143,Tryz.ntmps143
 go_wp2
 go_loop [3,8] (fun s i=>∃k:Nat,k≤l.length∧i=.int .i64 k∧s=.int .i64 (sumI (l.take k))) (fun _ i=>l.length-(intOf i).toNat)
 case atStart=>exact⟨0,Nat.zero_le _,rfl,rfl⟩
 case round=>
  exact q3e4dd9
theorem refSum_any (a:Option Addr) (len cap:Nat) (l:List Int) (w:World) (hr:Row .i64 w a len cap l) (hs:Small l) :
 Calls Tryz.prog 150 #[.slice a len cap] w fun e w'=>e=.returned (.int .i64 (sumI l))∧w=w':=by
 obtain⟨h1,h2,h3,hnn,h4⟩:=hr;unfold maxLen at h3;subst h1;go_enter Tryz.func150,Tryz.ntmps150
 go_wp2
 go_loop [3,4] (fun s i=>∃k:Nat,k≤l.length∧i=.int .i64 k∧s=.int .i64 (sumI (l.take k))) (fun _ i=>l.length-(intOf i).toNat)
 case atStart=>exact⟨0,Nat.zero_le _,rfl,rfl⟩
 case round=>
  exact q3e4dd9
theorem low_any (a:Option Addr) (len cap:Nat) (l:List Int) (w:World) (hr:Row .i64 w a len cap l) (hs:Small l) :
 Calls Tryz.prog 145 #[.slice a len cap] w fun e w'=>e=.returned (.bool (decide (sumI l<30)))∧w=w':=by
 go_enter Tryz.func145,Tryz.ntmps145
 go_wp2_with (go_at_call 143;refine(sum_any _ _ _ _ _ hr hs).mono ?_;rintro e w' ⟨rfl,rfl⟩)
 go_ret;exact⟨rfl,rfl⟩
theorem refLow_any (a:Option Addr) (len cap:Nat) (l:List Int) (w:World) (hr:Row .i64 w a len cap l) (hs:Small l) :
 Calls Tryz.prog 151 #[.slice a len cap] w fun e w'=>e=.returned (.bool (decide (sumI l<30)))∧w=w':=by
 go_enter Tryz.func151,Tryz.ntmps151
 go_wp2_with (go_at_call 150;refine(refSum_any _ _ _ _ _ hr hs).mono ?_;rintro e w' ⟨rfl,rfl⟩)
 go_ret;exact⟨rfl,rfl⟩
open Go.RowKit
theorem size_ints (w:World):(sizeOf (Tryz.prog.elem 35)).run Tryz.prog w=.ok 1 w:=by kernel_rfl
theorem elem_ints:Tryz.prog.underlying 35=some (.slice (Tryz.prog.elem 35)):=by kernel_rfl
theorem worse_any (a:Option Addr) (len cap at':Nat) (l:List Int) (w:World) (hr:Row .i64 w a len cap l) (hs:Small l) (hat:at'≤len) :
 Calls Tryz.prog 164 #[.slice a len cap,.int .i64 at'] w fun e w'=>e=.returned (.int .i64 (worse l at'))∧w=w':=by
 have hm:=hr.2.2.1;have hc:=hr.2.1;have hd:=hr.drop at' hat;obtain⟨a2,ha2,hsl⟩:=slice_from elem_ints size_ints a len cap at' hat;rw[←ha2] at hd;clear ha2;have hg:sumI (l.drop at')<sumI (l.take at')∨¬sumI (l.drop at')<sumI (l.take at'):=by omega
 have hw:Hid (worse l at'=if sumI (l.drop at')<sumI (l.take at') then sumI (l.take at') else sumI (l.drop at')):=Hd (by unfold worse;omega);unfold maxLen at hm
 rcases hg with hg|hg <;>
 ·go_enter Tryz.func164,Tryz.ntmps164
  go_wp2_with fail;refine(refSum_any _ _ _ _ _ (hr.take at' hat) (hs.take at')).mono ?_;rintro e w' ⟨rfl,rfl⟩;go_wp2_with fail;refine(refSum_any _ _ _ _ _ hd (hs.drop at')).mono ?_;rintro e w' ⟨rfl,rfl⟩
  go_wp2
  go_ret;exact⟨ret_int (by rw[hw.out];split<;>first|rfl|omega),rfl⟩
end Go.Proofs.YtpghlmcoajaiiaaGreatDoor
namespace Go.Proofs.YtpghlmcoajaiiaaGreatDoor
open Go.RowKit Go.Shelf
attribute [local go_sem] Oper.semAt_some
def place (l:List Int) (k:Nat):Int×Int:=((k:Int)+1,worse l (k+1))
end Go.Proofs.YtpghlmcoajaiiaaGreatDoor
namespace Go.Proofs.YtpghlmcoajaiiaaGreatDoor
open Go.RowKit Go.Shelf
attribute [local go_sem] Oper.semAt_some
end Go.Proofs.YtpghlmcoajaiiaaGreatDoor
namespace Go.Proofs.YtpghlmcoajaiiaaGreatDoor
open Go.RowKit
def splitR (p:Int) (l:List (List UInt8×Tr)) (k:Nat):Tr:=match splitT l k with
 | some m=>.node 0 m
 | none=>.node p l
theorem sizes_len (t:Tr):(sizesT t).length=cntT t:=by cases t<;>simp[sizesT,cntT]
theorem Bnd.cnt {n:Nat} {t:Tr} (h:Bnd (n+1) t):cntT t≤1000:=by cases t with
 | leaf p l=>exact h.1
 | node p l=>exact h.1
theorem mend_split {p:Int} {l:List (List UInt8×Tr)} {k:Nat} (h:(splitT l k).isSome=true):mendT p l k=splitR p l k:=by
 unfold mendT splitR;cases hs:splitT l k with
 | none=>rw[hs] at h;simp at h
 | some m=>rfl
theorem mend_same {p:Int} {l:List (List UInt8×Tr)} {k:Nat} (h:(splitT l k).isSome=false) (h2:lowT (kidAt l k)=false∨l.length<2):mendT p l k=.node p l:=by
 unfold mendT;cases hs:splitT l k with
 | none=>simp only;rw[if_pos h2]
 | some m=>rw[hs] at h;simp at h
theorem mend_join {p:Int} {l:List (List UInt8×Tr)} {k:Nat} (h:(splitT l k).isSome=false) (h2:lowT (kidAt l k)=true) (h3:2≤l.length):mendT p l k=splitR 0 (joined l (joinAt l.length k)) (joinAt l.length k):=by
 unfold mendT splitR;cases hs:splitT l k with
 | none=>simp only;rw[if_neg (by rw[h2];simp;omega)];rfl
 | some m=>rw[hs] at h;simp at h
theorem list_two {α:Type} {l:List α} {j:Nat} (h:j+1<l.length):∃a c d r,l=a++c::d::r∧a.length=j:=by
 obtain⟨a,c,b,e,ha⟩:=list_at (l:=l) (k:=j) (by omega);cases b with
 | nil=>rw[e] at h;simp at h;omega
 | cons d r=>exact⟨a,c,d,r,e,ha⟩
theorem two_at {α:Type} (a r:List (List UInt8×α)) (c d:List UInt8×α):keyAt (a++c::d::r) (a.length+1)=d.1:=by simp[keyAt]
theorem two_kid (a r:List (List UInt8×Tr)) (c d:List UInt8×Tr):kidAt (a++c::d::r) (a.length+1)=d.2:=by simp[kidAt]
structure MendOk (n:Nat) (l:List (List UInt8×Tr)):Prop where
 len:l.length≤1000
 bnd:∀c∈l,Bnd (n+1) c.2
 kind:∀c∈l,∀d∈l,c.2.isLeaf=d.2.isLeaf
 some_:∀c∈l,c.2.isLeaf=false→0<cntT c.2
 both:∀j,j+1<l.length→Bnd (n+1) (joinT (keyAt l (j+1)) (kidAt l j) (kidAt l (j+1)))
theorem kid_mem {l:List (List UInt8×Tr)} {k:Nat} (h:k<l.length):∃c∈l,c.2=kidAt l k:=⟨l[k],List.getElem_mem h,by simp[kidAt,h]⟩
def zero5:Array Value := #[.int .i64 0,.bool false,.slice none 0 0,.slice none 0 0,.slice none 0 0]
section
variable {F:Nat→Prop} {n:Nat} {w wc W3 w3:World} {T:Tr} {p:Int} {lf:Bool} {x1:Option Addr} {x2 x3:Nat} {x4:Option Addr} {x5 x6:Nat} {x7:Option Addr} {x8 x9:Nat} {a1 a2:Option Addr} {m1 m2 c1 c2:Nat} {e1 e2:TypeId} {xs1 xs2:List Value}
end
open Go.RowKit
open Go.RowKit
theorem NodeOn.open_pos {F:Nat→Prop} {n:Nat} {w:World} {cs:List Value} {t:Tr} (h:NodeOn F n w cs t) :
 ∃ka kc va vn vc ca cn cc V C,cs=[.int .i64 t.page,.bool t.isLeaf,.slice ka (cntT t) kc,.slice va vn vc,.slice ca cn cc]∧Raw 1 w ka (cntT t) kc (t.keys.map kCell)∧Raw 2 w va vn vc V∧Raw 5 w ca cn cc C:=by
 cases n with
 | zero=>exact h.elim
 | succ n=>
  obtain⟨ka,kc,va,vn,vc,ca,cn,cc,V,C,e,h1,h2,h3,_⟩:=h.open;exact⟨ka,kc,va,vn,vc,ca,cn,cc,V,C,e,h1,h2,h3⟩
def TopOk:Nat→Tr→Prop
 | 0,_=>False
 | n+1,t=>Bnd (n+1) t∧(t.isLeaf=false→0<cntT t)∧∀p l,t=.node p l→l.length=1→TopOk n (kidAt l 0)
theorem topT_kid {n:Nat} {p:Int} {l:List (List UInt8×Tr)} (h:l.length=1):topT (n+1) (.node p l)=topT n (kidAt l 0):=by
 show(if l.length=1 then _ else _)=_;rw[if_pos h]
theorem topT_same {n:Nat} {t:Tr} (h:∀p l,t=.node p l→l.length≠1) (ha:atF (sizesT t)=0):topT (n+1) t=t:=by
 cases t with
 | leaf p l=>show(if _ then _ else _)=_;rw[if_pos ha]
 | node p l=>
  show(if l.length=1 then _ else if _ then _ else _)=_;rw[if_neg (h p l rfl),if_pos ha]
theorem topT_mend {n:Nat} {t:Tr} (h:∀p l,t=.node p l→l.length≠1) (ha:atF (sizesT t)≠0):topT (n+1) t=mendT 0 [([],t)] 0:=by
 cases t with
 | leaf p l=>show(if _ then _ else _)=_;rw[if_neg ha]
 | node p l=>
  show(if l.length=1 then _ else if _ then _ else _)=_;rw[if_neg (h p l rfl),if_neg ha]
open Go.RowKit
theorem AgreeF.refl {F:Nat→Prop} (w:World):AgreeF F w w:=⟨Nat.le_refl _,fun _ _ _=>rfl⟩
theorem AgreeF.below {F:Nat→Prop} {a w w':World} (h:AgreeF F a w) (hb:Below w.heap.size w w'):AgreeF F a w':=h.trans (.of_below hb)
theorem AgreeF.al {F:Nat→Prop} {a w:World} {o:Obj} (h:AgreeF F a w):AgreeF F a (w.alloc o):=h.below (Below.al (Below.refl _ _))
theorem AgreeF.dr {F:Nat→Prop} {a w:World} (h:AgreeF F a w):AgreeF F a w.drew:=h
theorem AgreeF.st {r:Nat} {a w:World} {i:Nat} {u:Value} (h:AgreeF (fun b=>b≠r) a w):AgreeF (fun b=>b≠r) a (w.setCell ⟨r,i,none⟩ u):=h.set (.inl fun h=>h rfl)
def PutOk:Nat→Tr→List UInt8→Tv→Prop
 | 0,_,_,_=>False
 | _+1,.leaf _ l,_,_=>l.length≤900∧(keysOf l).Pairwise (fun a b=>a<b)
 | n+1,.node _ l,key,v=>0<l.length∧l.length≤1000∧PutOk n (kidAt l (wayF (keysOf l) key)) key v∧∃m,n=m+1∧MendOk m (l.set (wayF (keysOf l) key) (keyAt l (wayF (keysOf l) key),putT n (kidAt l (wayF (keysOf l) key)) key v))
theorem wayF_lt {ks:List (List UInt8)} (key:List UInt8) (h:0<ks.length):wayF ks key<ks.length:=(wayF_spec (key:=key) (List.length_pos_iff.1 h)).1
open Go.RowKit
def fillT (f:UInt8) (n:Nat):List UInt8:=List.replicate n f
structure Pt where
 key:List UInt8
 fill:UInt8
 size:Int
structure St where
 key:List UInt8
 size:Int
theorem all_bad {α:Type} {p:α→Bool} {l:List α} {i:Nat} {y:α} (hy:l[i]? = some y) (hp:p y=false):l.all p=false:=by
 rw[List.all_eq_false];exact⟨y,List.mem_of_getElem? hy,by rw[hp];decide⟩
theorem all_next {α:Type} {p:α→Bool} {l:List α} {i:Nat} {y:α} (hy:l[i]? = some y) (hp:p y=true) (h:(l.take i).all p=true):(l.take (i+1)).all p=true:=by
 rw[List.take_add_one,hy,List.all_append,h];simp[hp]
theorem all_whole {α:Type} {p:α→Bool} {l:List α} {n:Nat} (hn:l.length≤n) (h:(l.take n).all p=true):l.all p=true:=by
 rwa [List.take_of_length_le hn] at h
theorem kids_each {P:List UInt8→List UInt8→Tr→Prop}:∀{l:List (List UInt8×Tr)} {lo hi:List UInt8},KidsP P lo hi l→∀c∈l,∃lo' hi',P lo' hi' c.2
 | [c],lo,hi,h,d,hd=>by
  rcases List.mem_cons.1 hd with rfl|hd
  ·exact⟨_,_,h⟩
  ·cases hd
 | c::e::r,lo,hi,h,d,hd=>by
  rcases List.mem_cons.1 hd with rfl|hd
  ·exact⟨_,_,h.1⟩
  ·exact kids_each h.2.2.2.2 d hd
theorem flatMap_same {α β:Type} {f g:α→List β}:∀{l:List α},(∀x∈l,f x=g x)→l.flatMap f=l.flatMap g
 | [],_=>rfl
 | x::r,h=>by
  rw[List.flatMap_cons,List.flatMap_cons,h x (by simp),flatMap_same (fun y hy=>h y (by simp[hy]))]
theorem ents_more:∀{n m:Nat} {lo hi:List UInt8} {t:Tr},Shape n lo hi t→n≤m→entsT m t=entsT n t
 | 0,_,_,_,_,h,_=>h.elim
 | _+1,0,_,_,_,_,h=>by omega
 | _+1,_+1,_,_,.leaf p l,_,_=>rfl
 | n+1,m+1,lo,hi,.node p l,h,hm=>by
  rw[ents_node,ents_node];refine flatMap_same (fun c hc=>?_);obtain⟨lo',hi',hg⟩:=kids_each (shape_kids h).1 c hc;exact ents_more hg.1 (by omega)
theorem ents_top:∀{N n:Nat} {t:Tr},Shape n [] [] t→n≤N→entsT (N+1) (topT N t)=entsT n t
 | 0,n,_,h,hn=>by
  obtain rfl:n=0:=by omega
  exact h.elim
 | N+1,0,_,h,hn=>h.elim
 | N+1,n+1,.leaf p l,h,hn=>by
  unfold topT
  split
  ·rfl
  ·rw[show([([],Tr.leaf p l)]:List (List UInt8×Tr))=[]++([],Tr.leaf p l)::[] from rfl]
   have:=ents_mend (n:=N) (p:=0) (a:=[]) (b:=[]) (k:=[]) (t:=.leaf p l) (by intro c hc;simp at hc;rw[hc]);rw[List.length_nil] at this;rw[this];simp[entsK,entsT]
 | N+1,n+1,.node p l,h,hn=>by
  unfold topT
  split
  ·rename_i h1
   obtain⟨c,rfl⟩:=List.length_eq_one_iff.1 h1;have hg:Good n [] [] c.2:=(shape_kids h).1;have e:entsT (n+1) (.node p [c])=entsT n c.2:=by rw[ents_node];simp[entsK]
   have e2:kidAt [c] 0=c.2:=rfl;rw[e,e2];have h3:=ents_top hg.1 (show n≤N by omega);obtain⟨m,hm1,hm2⟩:=top_ok hg.1 (by have:=hg.2.2;omega) (show n≤N by omega);rw[←h3];rw[ents_more hm2.1 (show m≤N+1+1 by omega),ents_more hm2.1 (show m≤N+1 by omega)]
  ·split
   ·exact ents_more h (by omega)
   ·rw[show([([],Tr.node p l)]:List (List UInt8×Tr))=[]++([],Tr.node p l)::[] from rfl]
    have:=ents_mend (n:=N) (p:=0) (a:=[]) (b:=[]) (k:=[]) (t:=.node p l) (by intro c hc;simp at hc;rw[hc]);rw[List.length_nil] at this;rw[this];rw[show entsK (N+1) ([]++([],Tr.node p l)::[])=entsT (N+1) (.node p l) by simp[entsK]];exact ents_more h (by omega)
theorem top_some:∀{N n:Nat} {t:Tr},Shape n [] [] t→sumT t≤200→(∀p l,t=.leaf p l→p=0∨l≠[])→n≤N→emptyB (topT N t)=true∨0<cntT (topT N t)
 | 0,n,_,h,_,_,hn=>by
  obtain rfl:n=0:=by omega
  exact h.elim
 | N+1,0,_,h,_,_,hn=>h.elim
 | N+1,n+1,.leaf p l,h,hs,h0,hn=>by
  unfold topT
  split
  ·cases l with
   | nil=>
    rcases h0 p [] rfl with rfl|h0
    ·exact .inl rfl
    ·exact absurd rfl h0
   | cons c r=>exact .inr (by simp[cntT])
  ·rename_i hat
   rw[part_two hat];exact .inr (by simp[cntT])
 | N+1,n+1,.node p l,h,hs,h0,hn=>by
  unfold topT
  split
  ·rename_i h1
   obtain⟨c,rfl⟩:=List.length_eq_one_iff.1 h1;have hg:Good n [] [] c.2:=(shape_kids h).1;have e2:kidAt [c] 0=c.2:=rfl;rw[e2];refine top_some hg.1 (by have:=hg.2.2;omega) (fun p l e=>.inr (fun el=>?_)) (show n≤N by omega);have:=hg.2.1;rw[e,el,sum_leaf] at this;simp[sumI_nil] at this
  ·split
   ·have:=List.length_pos_iff.2 (kids_ne (shape_kids h).1)
    exact .inr (by simpa[cntT] using this)
   ·rename_i hat
    rw[part_two hat];exact .inr (by simp[cntT])
def Whole (n:Nat) (t:Tr):Prop:=Root n t∧(emptyB t=true∨0<cntT t)
theorem whole_empty:Whole 1 (.leaf 0 []):=⟨root_empty,.inl rfl⟩
def putW (n:Nat) (t:Tr) (key:List UInt8) (v:Tv):Tr:=topT n (putT n t key v)
theorem whole_put {n:Nat} {t:Tr} {key:List UInt8} {v:Tv} (h:Whole n t) (hk:keyOk key) (hv:valOk v):∃m,m≤n+1∧Whole m (putW n t key v)∧entsT m (putW n t key v)=putL key v (entsT n t):=by
 obtain⟨h1,h2,h3⟩:=put_ok h.1.1 h.1.2.1 h.1.2.2 hk (knil key) (ltH_nil _) hv;obtain⟨m,e1,e2⟩:=top_ok (N:=n) h1 (by omega) (Nat.le_refl _);refine⟨m,e1,⟨e2,top_some h1 (by omega) (fun p l e=>.inr (fun el=>?_)) (Nat.le_refl _)⟩,?_⟩
 ·have:=h3 p l e
  rw[el] at this;simp at this
 ·have g1:=ents_top (N:=n) h1 (Nat.le_refl _)
  have g2:=ents_put h.1.1 hk (knil key) (ltH_nil _) hv h.1.2.1 h.1.2.2;show entsT m (topT n (putT n t key v))=_;rw[←g2,←g1,ents_more e2.1 e1]
theorem whole_check {n:Nat} {t:Tr} (h:Whole n t):checkT n t=true:=check_ok h.1 (Nat.le_refl _) h.2

open Go.RowKit
theorem Boxes.agree {F:Nat→Prop} {w w':World} {l:List (Nat×List Value)} (h:Boxes w l) (ha:AgreeF F w w') (hl:∀p∈l,F p.1):Boxes w' l:=fun p hp=>by
 obtain⟨t,ht⟩:=h p hp;exact⟨t,(ha.2 p.1 (hl p hp) (Array.getElem?_eq_some_iff.1 ht).1).trans ht⟩
theorem own_agree {w w':World} {base:Nat} {e:TypeId} {size:Nat} {v:Value} {n:Nat} {xs:List Value} {F:Nat→Prop} (h:w.ownsRow base e size v n xs) (ha:AgreeF F w w') (hF:∀g,v.ownBlock=some g→F g):w'.ownsRow base e size v n xs:=by
 refine⟨h.1,h.2.imp id fun⟨g,cap,cur,e1,hg,hh,r⟩=>⟨g,cap,cur,e1,hg,?_,r⟩⟩;subst e1;rw[ha.2 g (hF g rfl) (Array.getElem?_eq_some_iff.1 hh).1];exact hh
theorem _root_.List.take_succ_eq_append_of {α:Type} {l:List α} {i:Nat} {y:α} (h:l[i]? = some y):l.take (i+1)=l.take i++[y]:=by
 rw[List.take_add_one,h];rfl
theorem fr_le {F:Nat→Prop} {W w5:World} {B b:Nat} (hF:∀b,F b→B≤b) (hB:B≤w5.heap.size) (hW:w5.heap.size≤W.heap.size) (h:Fr F W b):B≤b:=by
 rcases h with h|h
 ·exact hF b h
 ·omega
theorem fillT_len (f:UInt8) (n:Nat):(fillT f n).length=n:=by simp[fillT]
open Go.RowKit
def RowQ {α:Type} (sz:Nat) (Q:List Value→α→Prop) (E:TypeId) (B:Nat) (w:World) (v:Value) (l:List α):Prop:=∃L:List (Cl sz),w.ownsRow B E sz v l.length (flatC L)∧Tells Q L l
def Turn (w:World) (v v':Value):Prop:=v'.ownBlock=v.ownBlock∨∀g,v'.ownBlock=some g→w.heap.size≤g
theorem Turn.ne {w:World} {v v':Value} (h:Turn w v v') {b:Nat} (hb:v.ownBlock≠some b) (hlt:b<w.heap.size):v'.ownBlock≠some b:=fun e=>by
 rcases h with h|h
 ·rw[h] at e;exact hb e
 ·have:=h b e;omega
section
variable {α:Type} {sz:Nat} {Q:List Value→α→Prop} {E:TypeId} {B:Nat} {w:World} {v:Value} {l:List α}
theorem RowQ.nil (w:World):RowQ sz Q E B w (.slice none 0 0) []:=⟨[],own_nil w E sz B,Tells.nil⟩
theorem RowQ.lt (h:RowQ sz Q E B w v l) {g:Nat} (hg:v.ownBlock=some g):B≤g∧g<w.heap.size:=by
 obtain⟨L,h1,_⟩:=h;exact World.ownsRow.lt h1 g hg
theorem RowQ.keep {Q':List Value→α→Prop} {w':World} (h:RowQ sz Q E B w v l) (ha:AgreeF (fun b=>v.ownBlock=some b) w w') (hQ:∀cs y,Q cs y→Q' cs y):RowQ sz Q' E B w' v l:=by
 obtain⟨L,h1,h2⟩:=h;exact⟨L,own_agree h1 ha (fun g hg=>hg),h2.mono (fun _ _ _ h=>hQ _ _ h)⟩
theorem RowQ.sl (h:RowQ sz Q E B w v l):∃a c,v=.slice a l.length c∧l.length≤c∧c≤9223372036854775807∧TabR sz Q w a l.length c l∧Fa (fun b=>B≤b) a l.length:=by
 exact q6907ba
theorem RowQ.push {P:Program} {t:TypeId} {bytes:Nat} (ht:P.underlying t=some (.slice E)) (hi:RowInfo P E sz bytes) (hsz:0<sz) (hby:bytes≤1000) (h:RowQ sz Q E B w v l) (hB:B≤w.heap.size) (hl:l.length≤100000) {cs:List Value} (hlen:cs.length=sz) (hone:∀u∈cs,u.oneCell'=true) :
 ∃v' w',(Builtin.append_ #[t,t] t #[v,.slice (some ⟨w.heap.size,0,none⟩) 1 1]).run P (w.alloc (.cells cs.toArray E))=.ok v' w'∧w.grownBy w' v.ownBlock∧Turn w v v' ∧
  ∀(Q':List Value→α→Prop) (y:α),(∀cs y,Q cs y→Q' cs y)→Q' cs y→RowQ sz Q' E B w' v' (l++[y]):=by
 obtain⟨L,h1,h2⟩:=h;obtain⟨i,z,i1,i2,i3,i4,i5⟩:=hi;have hbb:(l.length+1)*bytes≤140737488355328:=Nat.le_trans (Nat.mul_le_mul (show l.length+1≤100001 by omega) hby) (by decide);obtain⟨v',w',hr,ho,hg,hv⟩:=run_append_new (P:=P) B t E i z sz bytes ht i1 i2 i3 i4 i5 hsz h1 cs.toArray (by simpa using hlen) (by simpa using hone) (by unfold maxLen;omega) hbb hB;refine⟨v',w',hr,hg,?_,fun Q' y hQ hy=>⟨L++[⟨cs,hlen,hone⟩],?_,(h2.mono (fun _ _ _ h=>hQ _ _ h)).append (Tells.one hy)⟩⟩
 ·rcases hv with hv|hv
  ·exact .inl hv
  ·exact .inr fun g e=>by rw[hv] at e;have:=Option.some.inj e;omega
 ·have e:flatC (L++[⟨cs,hlen,hone⟩])=flatC L++cs:=by rw[flatC_append];exact congrArg (flatC L++·) (List.append_nil cs)
  rw[e,List.length_append];exact ho
end
def G3 (F:Nat→Prop) (B:Nat) (v1 v2 v3:Value) (b:Nat):Prop:=(F b∨B≤b)∧v1.ownBlock≠some b∧v2.ownBlock≠some b∧v3.ownBlock≠some b
theorem TvOn.lt {F:Nat→Prop} {w:World} {cs:List Value} {v:Tv} (h:TvOn F w cs v):TvOn (fun b=>F b∧b<w.heap.size) w cs v:=by
 obtain⟨a,n,c,e,h,f⟩:=h;exact⟨a,n,c,e,h,f.and h.block⟩
theorem tvKeep {G G':Nat→Prop} {w w':World} {cs:List Value} {y:Tv} (h:TvOn G w cs y) (ha:AgreeF G w w') (hG:∀b,G b→b<w.heap.size→G' b):TvOn G' w' cs y:=
 (h.lt.agree ⟨ha.1,fun b hb hlt=>ha.2 b hb.1 hlt⟩).mono (fun b hb=>hG b hb.1 hb.2)
theorem nodeKeep {G G':Nat→Prop} {n:Nat} {w w':World} {cs:List Value} {y:Tr} (h:NodeOn G n w cs y) (ha:AgreeF G w w') (hG:∀b,G b→b<w.heap.size→G' b):NodeOn G' n w' cs y:=
 (h.lt.agree ⟨ha.1,fun b hb hlt=>ha.2 b hb.1 hlt⟩).mono (fun b hb=>hG b hb.1 hb.2)
structure NodeRows (T1 T2 T3:TypeId) (F:Nat→Prop) (n B:Nat) (w:World) (v1 v2 v3:Value) (K:List (List UInt8)) (V:List Tv) (C:List Tr):Prop where
 k:RowQ 1 IsKey T1 B w v1 K
 v:RowQ 2 (TvOn (G3 F B v1 v2 v3) w) T2 B w v2 V
 c:RowQ 5 (NodeOn (G3 F B v1 v2 v3) n w) T3 B w v3 C
 d12:∀g,v1.ownBlock=some g→v2.ownBlock≠some g
 d13:∀g,v1.ownBlock=some g→v3.ownBlock≠some g
 d23:∀g,v2.ownBlock=some g→v3.ownBlock≠some g
section
variable {T1 T2 T3:TypeId} {F:Nat→Prop} {n B:Nat} {w:World} {v1 v2 v3:Value} {K:List (List UInt8)} {V:List Tv} {C:List Tr}
theorem NodeRows.nil (T1 T2 T3:TypeId) (F:Nat→Prop) (n B:Nat) (w:World):NodeRows T1 T2 T3 F n B w (.slice none 0 0) (.slice none 0 0) (.slice none 0 0) [] [] []:=
 ⟨RowQ.nil w,RowQ.nil w,RowQ.nil w,fun g h=>(by cases h),fun g h=>(by cases h),fun g h=>(by cases h)⟩
theorem NodeRows.agree {w':World} (h:NodeRows T1 T2 T3 F n B w v1 v2 v3 K V C) (ha:AgreeF (fun b=>F b∨B≤b) w w'):NodeRows T1 T2 T3 F n B w' v1 v2 v3 K V C where
 k:=h.k.keep (ha.sub fun _ hb=>.inr (h.k.lt hb).1) (fun _ _ h=>h)
 v:=h.v.keep (ha.sub fun _ hb=>.inr (h.v.lt hb).1) (fun _ _ h=>h.agree (ha.sub fun _ hb=>hb.1))
 c:=h.c.keep (ha.sub fun _ hb=>.inr (h.c.lt hb).1) (fun _ _ h=>h.agree (ha.sub fun _ hb=>hb.1))
 d12:=h.d12
 d13:=h.d13
 d23:=h.d23
theorem NodeRows.below {w':World} (h:NodeRows T1 T2 T3 F n B w v1 v2 v3 K V C) (hb:Below w.heap.size w w'):NodeRows T1 T2 T3 F n B w' v1 v2 v3 K V C:=h.agree (.of_below hb)
theorem NodeRows.set {p:Addr} {u:Value} (h:NodeRows T1 T2 T3 F n B w v1 v2 v3 K V C) (hp:p.block<B) (hF:¬F p.block):NodeRows T1 T2 T3 F n B (w.setCell p u) v1 v2 v3 K V C:=
 h.agree (AgreeF.set (AgreeF.refl w) (.inl fun hf=>by rcases hf with hf|hf;exact hF hf;omega))
theorem NodeRows.pushK {P:Program} {t:TypeId} {bytes:Nat} (ht:P.underlying t=some (.slice T1)) (hi:RowInfo P T1 1 bytes) (hby:bytes≤1000) (h:NodeRows T1 T2 T3 F n B w v1 v2 v3 K V C) (hB:B≤w.heap.size) (hl:K.length≤100000) (key:List UInt8) :
 ∃v' w',(Builtin.append_ #[t,t] t #[v1,.slice (some ⟨w.heap.size,0,none⟩) 1 1]).run P (w.alloc (.cells #[.string (strOf key)] T1))=.ok v' w'∧w.grownBy w' v1.ownBlock∧Turn w v1 v'∧NodeRows T1 T2 T3 F n B w' v' v2 v3 (K++[key]) V C:=by
 obtain⟨v',w',hr,hg,ht',hq⟩:=h.k.push (P:=P) (t:=t) ht hi (by decide) hby hB hl (cs:=[.string (strOf key)]) rfl (by intro u hu;simp at hu;subst hu;rfl);have hag:AgreeF (fun b=>v1.ownBlock≠some b) w w':=⟨hg.size,fun b hb hlt=>hg.block b hlt (fun e=>hb e.symm)⟩
 have hG:∀b,G3 F B v1 v2 v3 b→b<w.heap.size→G3 F B v' v2 v3 b:=fun b hb hlt=>⟨hb.1,ht'.ne hb.2.1 hlt,hb.2.2⟩
 refine⟨v',w',hr,hg,ht',⟨hq IsKey key (fun _ _ h=>h) rfl,h.v.keep (hag.sub fun b hb e=>h.d12 b e hb) (fun _ _ h=>tvKeep h (hag.sub fun b hb=>hb.2.1) hG),h.c.keep (hag.sub fun b hb e=>h.d13 b e hb) (fun _ _ h=>nodeKeep h (hag.sub fun b hb=>hb.2.1) hG),fun g e e2=>?_,fun g e e2=>?_,h.d23⟩⟩
 ·exact ht'.ne (fun e3=>h.d12 g e3 e2) (h.v.lt e2).2 e
 ·exact ht'.ne (fun e3=>h.d13 g e3 e2) (h.c.lt e2).2 e
theorem NodeRows.pushV {P:Program} {t:TypeId} {bytes:Nat} (ht:P.underlying t=some (.slice T2)) (hi:RowInfo P T2 2 bytes) (hby:bytes≤1000) (h:NodeRows T1 T2 T3 F n B w v1 v2 v3 K V C) (hB:B≤w.heap.size) (hl:V.length≤100000) {cs:List Value} {tv:Tv} (hy:TvOn (G3 F B v1 v2 v3) w cs tv) :
 ∃v' w',(Builtin.append_ #[t,t] t #[v2,.slice (some ⟨w.heap.size,0,none⟩) 1 1]).run P (w.alloc (.cells cs.toArray T2))=.ok v' w'∧w.grownBy w' v2.ownBlock∧Turn w v2 v'∧NodeRows T1 T2 T3 F n B w' v1 v' v3 K (V++[tv]) C:=by
 obtain⟨v',w',hr,hg,ht',hq⟩:=h.v.push (P:=P) (t:=t) ht hi (by decide) hby hB hl (cs:=cs) (by obtain⟨_,_,_,rfl,_⟩:=hy;rfl) (hy.toIn.one);have hag:AgreeF (fun b=>v2.ownBlock≠some b) w w':=⟨hg.size,fun b hb hlt=>hg.block b hlt (fun e=>hb e.symm)⟩
 have hG:∀b,G3 F B v1 v2 v3 b→b<w.heap.size→G3 F B v1 v' v3 b:=fun b hb hlt=>⟨hb.1,hb.2.1,ht'.ne hb.2.2.1 hlt,hb.2.2.2⟩
 refine⟨v',w',hr,hg,ht',⟨h.k.keep (hag.sub fun b hb e=>h.d12 b hb e) (fun _ _ h=>h),hq _ tv (fun _ _ h=>tvKeep h (hag.sub fun b hb=>hb.2.2.1) hG) (tvKeep hy (hag.sub fun b hb=>hb.2.2.1) hG),h.c.keep (hag.sub fun b hb e=>h.d23 b e hb) (fun _ _ h=>nodeKeep h (hag.sub fun b hb=>hb.2.2.1) hG),fun g e e2=>?_,h.d13,fun g e e2=>?_⟩⟩
 ·exact ht'.ne (h.d12 g e) (h.k.lt e).2 e2
 ·exact ht'.ne (fun e3=>h.d23 g e3 e2) (h.c.lt e2).2 e
theorem NodeRows.pushC {P:Program} {t:TypeId} {bytes:Nat} (ht:P.underlying t=some (.slice T3)) (hi:RowInfo P T3 5 bytes) (hby:bytes≤1000) (h:NodeRows T1 T2 T3 F n B w v1 v2 v3 K V C) (hB:B≤w.heap.size) (hl:C.length≤100000) {cs:List Value} {kid:Tr} (hy:NodeOn (G3 F B v1 v2 v3) n w cs kid) :
 ∃v' w',(Builtin.append_ #[t,t] t #[v3,.slice (some ⟨w.heap.size,0,none⟩) 1 1]).run P (w.alloc (.cells cs.toArray T3))=.ok v' w'∧w.grownBy w' v3.ownBlock∧Turn w v3 v'∧NodeRows T1 T2 T3 F n B w' v1 v2 v' K V (C++[kid]):=by
 obtain⟨v',w',hr,hg,ht',hq⟩:=h.c.push (P:=P) (t:=t) ht hi (by decide) hby hB hl (cs:=cs) (by obtain⟨_,_,_,_,_,_,_,_,_,_,rfl,_⟩:=NodeOn.open_pos hy;rfl) (hy.one);have hag:AgreeF (fun b=>v3.ownBlock≠some b) w w':=⟨hg.size,fun b hb hlt=>hg.block b hlt (fun e=>hb e.symm)⟩
 have hG:∀b,G3 F B v1 v2 v3 b→b<w.heap.size→G3 F B v1 v2 v' b:=fun b hb hlt=>⟨hb.1,hb.2.1,hb.2.2.1,ht'.ne hb.2.2.2 hlt⟩
 refine⟨v',w',hr,hg,ht',⟨h.k.keep (hag.sub fun b hb e=>h.d13 b hb e) (fun _ _ h=>h),h.v.keep (hag.sub fun b hb e=>h.d23 b hb e) (fun _ _ h=>tvKeep h (hag.sub fun b hb=>hb.2.2.2) hG),hq _ kid (fun _ _ h=>nodeKeep h (hag.sub fun b hb=>hb.2.2.2) hG) (nodeKeep hy (hag.sub fun b hb=>hb.2.2.2) hG),h.d12,fun g e e2=>?_,fun g e e2=>?_⟩⟩
 ·exact ht'.ne (h.d13 g e) (h.k.lt e).2 e2
 ·exact ht'.ne (h.d23 g e) (h.v.lt e).2 e2
theorem NodeRows.sl (h:NodeRows T1 T2 T3 F n B w v1 v2 v3 K V C):∃a1 c1 a2 c2 a3 c3,v1=.slice a1 K.length c1∧v2=.slice a2 V.length c2∧v3=.slice a3 C.length c3:=by
 obtain⟨a1,c1,rfl,_⟩:=h.k.sl;obtain⟨a2,c2,rfl,_⟩:=h.v.sl;obtain⟨a3,c3,rfl,_⟩:=h.c.sl;exact⟨a1,c1,a2,c2,a3,c3,rfl,rfl,rfl⟩
theorem NodeRows.leaf {G:Nat→Prop} {p:Int} {l:List (List UInt8×Tv)} (h:NodeRows T1 T2 T3 F n B w v1 v2 v3 (keysOf l) (l.map (·.2)) []) (hG:∀b,F b∨B≤b→G b) (m:Nat):NodeOn G (m+1) w [.int .i64 p,.bool true,v1,v2,v3] (.leaf p l):=by
 obtain⟨a1,c1,rfl,_,_,h1,f1⟩:=h.k.sl;obtain⟨a2,c2,rfl,_,_,h2,f2⟩:=h.v.sl;obtain⟨a3,c3,rfl,_,_,h3,f3⟩:=h.c.sl;exact⟨a1,_,c1,a2,_,c2,a3,c3,rfl,h1,f1.mono (fun b hb=>hG b (.inr hb)),TabR.mono h2 (fun _ _ h=>h.mono (fun b hb=>hG b hb.1)),f2.mono (fun b hb=>hG b (.inr hb)),unit_any h3⟩
theorem NodeRows.node {G:Nat→Prop} {p:Int} {l:List (List UInt8×Tr)} (h:NodeRows T1 T2 T3 F n B w v1 v2 v3 (keysOf l) [] (l.map (·.2))) (hG:∀b,F b∨B≤b→G b):NodeOn G (n+1) w [.int .i64 p,.bool false,v1,v2,v3] (.node p l):=by
 obtain⟨a1,c1,rfl,_,_,h1,f1⟩:=h.k.sl;obtain⟨a2,c2,rfl,_,_,h2,f2⟩:=h.v.sl;obtain⟨a3,c3,rfl,_,_,h3,f3⟩:=h.c.sl;exact⟨a1,_,c1,a2,c2,a3,_,c3,rfl,h1,f1.mono (fun b hb=>hG b (.inr hb)),unit_any h2,TabR.mono h3 (fun _ _ h=>NodeOn.mono (fun b hb=>hG b hb.1) h),f3.mono (fun b hb=>hG b (.inr hb))⟩
end
open Go.RowKit
def errP (x:Int):List PanicEntry:=[{ v:=.iface 32 (.int .i64 x),recovered:=false }]
def SeenOk (seen:List Int):Prop:=seen.Nodup∧∀p∈seen,0≤p∧p≤999
theorem nodup_len:∀(n:Nat) (l:List Int),l.Nodup→(∀p∈l,0≤p∧p<n)→l.length≤n
 | 0,l,_,h=>by
  cases l with
  | nil=>simp
  | cons x r=>have:=h x (by simp);omega
 | n+1,l,hd,h=>by
  by_cases hm:(n:Int)∈l
  ·have h1:=nodup_len n (l.erase n) (hd.erase _) (fun p hp=>by
    have h2:=(List.Nodup.mem_erase_iff hd).1 hp;have:=h p h2.2;have:p≠n:=h2.1;omega)
   have:=List.length_erase_of_mem hm;omega
  ·have:=nodup_len n l hd (fun p hp=>by
    have:=h p hp;have:p≠n:=fun e=>hm (e ▸ hp)
    omega)
   omega
theorem SeenOk.len {seen:List Int} (h:SeenOk seen):seen.length≤1000:=nodup_len 1000 seen h.1 (fun p hp=>by have:=h.2 p hp;omega)
theorem SeenOk.nil:SeenOk []:=⟨by simp,by simp⟩
theorem SeenOk.snoc {seen:List Int} {p:Int} (h:SeenOk seen) (hp:p∉seen) (h0:0≤p) (h9:p≤999):SeenOk (seen++[p]):=by
 refine⟨List.nodup_append.2 ⟨h.1,by simp,fun a ha b hb=>?_⟩,fun q hq=>?_⟩
 ·simp at hb;subst hb;exact fun e=>hp (e ▸ ha)
 ·rcases List.mem_append.1 hq with hq|hq
  ·exact h.2 q hq
  ·simp at hq;subst hq;exact⟨h0,h9⟩
theorem SeenOk.see {seen l s:List Int} (h:SeenOk seen) (hs:seeL seen l=some s) (hl:∀p∈l,0≤p∧p≤999):SeenOk s:=by
 induction l generalizing seen with
 | nil=>cases hs;exact h
 | cons p r ih=>
  unfold seeL at hs
  split at hs
  ·cases hs
  ·rename_i hp
   exact ih (h.snoc hp (hl p (by simp)).1 (hl p (by simp)).2) hs (fun q hq=>hl q (List.mem_cons_of_mem _ hq))
structure LdIn (T:Nat) (w:World) (lb mb da M:Nat) (d:List Rg) (r:Int) (seen:List Int):Prop where
 box:w.heap[lb]? = some (.cells #[.pointer (some ⟨da,0,none⟩),.int .i64 r,.map (some mb)] 134 (0,0))
 ct:CtMap w mb seen.length (fun q=>seen.count q)
 dsk:∃F bs,DskIn w F da M bs d∧mb∉F∧∀k∈F,k<T
 ne:lb≠mb
 half:Half w
 hne:mb≠0
 tl:lb<T
 tm:mb<T
 th:0<T
section
variable {T:Nat} {w w':World} {lb mb da M:Nat} {d:List Rg} {r:Int} {seen:List Int}
theorem LdIn.lt (h:LdIn T w lb mb da M d r seen):lb<w.heap.size∧mb<w.heap.size:=⟨(Array.getElem?_eq_some_iff.1 h.box).1,h.ct.lt⟩
theorem LdIn.cell (h:LdIn T w lb mb da M d r seen):w.cell? ⟨lb,0,none⟩=some (.pointer (some ⟨da,0,none⟩))∧w.cell? ⟨lb,1,none⟩=some (.int .i64 r)∧w.cell? ⟨lb,2,none⟩=some (.map (some mb)):=by
 have:=h.box;exact⟨by simp[World.cell?,this],by simp[World.cell?,this],by simp[World.cell?,this]⟩
theorem LdIn.past (h:LdIn T w lb mb da M d r seen) (hb:Below T w w'):LdIn T w' lb mb da M d r seen:=by
 obtain⟨F,bs,h1,h2,h3⟩:=h.dsk;have hT:∀k,k<T→w'.heap[k]? = w.heap[k]? := fun k hk=>hb.block k hk
 have ho:Only (List.range (w.heap.size-T) |>.map (· + T)) w w':=⟨hb.os,hb.tape,hb.output,hb.size,fun k hk hS=>hT k (by
  rcases Nat.lt_or_ge k T with h|h
  ·exact h
  ·exact absurd (List.mem_map.2 ⟨k-T,by simp;omega,by omega⟩) hS)⟩
 refine⟨(hT lb h.tl).trans h.box,h.ct.kept (hT mb h.tm),⟨F,bs,h1.only ho (fun k hk hk2=>?_),h2,h3⟩,h.ne,⟨Nat.lt_of_lt_of_le h.half.1 hb.size,fun i hi=>(World.cell?_of_block (hT _ h.th)).trans (h.half.2 i hi)⟩,h.hne,h.tl,h.tm,h.th⟩;obtain⟨x,hx,rfl⟩:=List.mem_map.1 hk2;have:=h3 _ hk;omega
theorem LdIn.below (h:LdIn T w lb mb da M d r seen) (hT:T≤w.heap.size) (hb:Below w.heap.size w w'):LdIn T w' lb mb da M d r seen:=h.past (hb.mono hT)
theorem LdIn.one (h:LdIn T w lb mb da M d r seen):One 0 w da M d:=by
 obtain⟨F,bs,h1,h2,_⟩:=h.dsk;exact⟨F,bs,h1,fun _ _=>Nat.zero_le _,Nat.zero_le _⟩
theorem LdIn.turn {s2:List Int} (h:LdIn T w lb mb da M d r seen) (hg:w.grownBy w' (some mb)) (hc:CtMap w' mb s2.length (fun q=>s2.count q)):LdIn T w' lb mb da M d r s2:=by
 obtain⟨F,bs,h1,h2,h3⟩:=h.dsk;have ho:Only [mb] w w':=Only.of_grown hg (fun k e=>.inl (by cases e;simp));exact⟨(hg.block lb h.lt.1 (fun e=>h.ne (Option.some.inj e))).trans h.box,hc,⟨F,bs,h1.only ho (fun k hk hk2=>h2 (by simp at hk2;exact hk2 ▸ hk)),h2,h3⟩,h.ne,h.half.grown hg h.hne,h.hne,h.tl,h.tm,h.th⟩
end
theorem must_ok (w:World):Calls Tryz.prog 95 #[.int .i64 0] w fun e w'=>e=.returned (.tuple #[])∧w=w':=by
 go_enter Tryz.func95,Tryz.ntmps95
 go_wp2
 go_end0
 exact⟨rfl,rfl⟩
theorem must_bad {x:Int} (hx:x≠0) (w:World):Calls Tryz.prog 95 #[.int .i64 x] w fun e w'=>e=.panicked (errP x)∧w=w':=by
 have q:(x != 0)=true:=by simpa using hx
 go_enter Tryz.func95,Tryz.ntmps95
 go_wp2
 exact⟨rfl,rfl,rfl⟩
def SeePost (T:Nat) (w:World) (lb mb da M:Nat) (d:List Rg) (r:Int) (R:Option (List Int)) (e:Ending) (w':World):Prop:=
 Only [mb] w w'∧match R with
  | some s=>e=.returned (.tuple #[])∧LdIn T w' lb mb da M d r s
  | none=>e=.panicked (errP 11)
theorem row_only {k:IntKind} {w w':World} {a:Option Addr} {len cap:Nat} {l:List Int} {mb:Nat} (h:Row k w a len cap l) (ho:Only [mb] w w') (hne:∀x,a=some x→x.block≠mb):Row k w' a len cap l:=by
 obtain⟨h1,h2,h3,h4,h5⟩:=h;refine⟨h1,h2,h3,h4,h5.imp id ?_⟩;rintro⟨b,off,rfl,hb,hc⟩;have:=ho.size;exact⟨b,off,rfl,by omega,fun i hi=>(World.cell?_of_block (ho.block hb (by simp;exact hne _ rfl))).trans (hc i hi)⟩
theorem see_any {T:Nat} {w:World} {lb mb da M:Nat} {d:List Rg} {r:Int} {seen ps:List Int} (h:LdIn T w lb mb da M d r seen) (hl:seen.length+ps.length≤100000) (hi:∀p∈ps,I64 p) {a:Option Addr} {n cap:Nat} (hr:Row .i64 w a n cap ps) (hne:∀x,a=some x→x.block≠mb) :
 Calls Tryz.prog 93 #[.pointer (some ⟨lb,0,none⟩),.slice a n cap] w (SeePost T w lb mb da M d r (seeL seen ps)):=by
 have hn:ps.length=n:=hr.1;obtain⟨R,hR⟩:∃R,seeL seen ps=R:=⟨_,rfl⟩
 have HS:=Hd (show LdIn T w lb mb da M d r (seen++ps.take 0)∧seeL (seen++ps.take 0) (ps.drop 0)=R∧Only [mb] w w from⟨by simpa using h,by simpa using hR,Only.refl _ _⟩);have HROW:=Hd hr;have HI:=Hd hi;have HN:=Hd hn;have HNE:=Hd hne;have hcap:=hr.2.2.1;have hncap:=hr.2.1;unfold maxLen at hcap;rw[hR];clear h hi hr hn hR hne;go_enter Tryz.func93,Tryz.ntmps93;go_wp2_with fail
 go_loopw [8] (fun s8 wr=>∃i:Nat,i≤n∧s8=.int .i64 i∧LdIn T wr lb mb da M d r (seen++ps.take i)∧seeL (seen++ps.take i) (ps.drop i)=R∧Only [mb] w wr) (fun s _=>n-(intOf s).toNat)
 case atStart=>exact⟨0,Nat.zero_le _,rfl,HS.out⟩
 case round=>
  clear HS;obtain⟨i,hi,rfl,h1,h2,h3⟩:=hrel
  by_cases hlt:i<n
  ·have e1:∃p,ps[i]? = some p:=⟨ps[i]'(by rw[HN.out];exact hlt),by simp⟩
   obtain⟨p,hp⟩:=e1;have hpm:p∈ps:=List.mem_of_getElem? hp;have hpi:=HI.out p hpm;have hdr:ps.drop i=p::ps.drop (i+1):=by
    have:=List.getElem?_eq_some_iff.1 hp;rw[←this.2,List.drop_eq_getElem_cons]
   have htk:ps.take (i+1)=ps.take i++[p]:=List.take_succ_eq_append_of hp;have hlen:(seen++ps.take i).length≤100000:=by have:=HN.out;simp;omega
   obtain⟨c0,c1,c2⟩:=h1.cell;obtain⟨b,off,rfl,hbl,hc⟩:=(row_only HROW.out h3 HNE.out).2.2.2.2.resolve_left (by omega);have k0:=hc i hlt;rw[hp] at k0;have hlk:=h1.ct.lookup p hpi;obtain⟨w2,hu,hct2,hg⟩:=h1.ct.inc p hpi (by omega);have hd2:LdIn T w2 lb mb da M d r (seen++ps.take i++[p]):=h1.turn hg (by have:=hct2;rwa [show(seen++ps.take i).length+1=(seen++ps.take i++[p]).length by simp;omega] at this);have ho2:Only [mb] w w2:=h3.trans (Only.of_grown hg (fun k e=>.inl (by cases e;simp)));obtain⟨d0,d1,d2⟩:=hd2.cell;have hlk2:=hd2.ct.lookup p hpi;rw[List.count_append] at hlk2;have hcm:p∈seen++ps.take i↔0<(seen++ps.take i).count p:=List.count_pos_iff.symm;have hc1:[p].count p=1:=by simp
   rw[hc1] at hlk2;obtain⟨ct,hct⟩:∃ct,(seen++ps.take i).count p=ct:=⟨_,rfl⟩
   have hct9:ct≤100000:=by rw[←hct];exact Nat.le_trans (List.count_le_length ..) hlen
   rw[hct] at hlk hu hlk2 hcm;rw[hdr] at h2;unfold seeL at h2;have q1:decide ((i:Int)<(n:Int))=true:=decide_eq_true (by omega);have q2:decide (i<n)=true:=decide_eq_true hlt;have iw:IntKind.i64.wrap ((ct:Int)+1)=(ct:Int)+1:=by simp[IntKind.wrap,IntKind.signed,IntKind.bits];omega
   have iw2:IntKind.i64.wrap ((i:Int)+1)=(i:Int)+1:=by simp[IntKind.wrap,IntKind.signed,IntKind.bits];omega
   have HD2:=Hd hd2;have HO2:=Hd ho2;have HTK:=Hd htk
   by_cases hmem:p∈seen++ps.take i
   ·rw[if_pos hmem] at h2
    have h0:=hcm.1 hmem;have q3:decide ((1:Int)<((ct+1:Nat):Int))=true:=decide_eq_true (by omega);have q4:decide ((1:Int)<(ct:Int)+1)=true:=decide_eq_true (by omega);have HEP:Hid (SeePost T w lb mb da M d r R (.panicked (errP 11)) w2):=Hd (by rw[←h2];exact⟨ho2,rfl⟩);clear h1 h2 h3 hdr htk hd2 ho2 hct2 hg hcm hct hc hc1 hp hmem hpm;go_wp2_with fail;exact⟨rfl,HEP.out⟩
   ·rw[if_neg hmem] at h2
    have h0:ct=0:=by
     rcases Nat.eq_zero_or_pos ct with h|h
     ·exact h
     ·exact absurd (hcm.2 h) hmem
    have q3:decide ((1:Int)<((ct+1:Nat):Int))=false:=decide_eq_false (by omega);have q4:decide ((1:Int)<(ct:Int)+1)=false:=decide_eq_false (by omega);clear h0;have H2:=Hd h2;clear h1 h2 h3 hdr htk hd2 ho2 hct2 hg hcm hct hc hc1 hp hmem hpm;go_wp2_with fail;go_roundw
    case rel=>exact⟨i+1,hlt,by go_num,by rw[HTK.out,←List.append_assoc];exact HD2.out,by rw[HTK.out,←List.append_assoc];exact H2.out,HO2.out⟩
    case measure=>simp[intOf];omega
  ·have q1:decide ((i:Int)<(n:Int))=false:=decide_eq_false (by omega)
   have q2:decide (i<n)=false:=decide_eq_false hlt;have hin:i=n:=by omega
   have HE:Hid (SeePost T w lb mb da M d r R (.returned (.tuple #[])) wr):=Hd (by
    have e1:ps.drop i=[]:=List.drop_of_length_le (by have:=HN.out;omega);rw[e1] at h2;cases h2;exact⟨h3,rfl,h1⟩)
   clear h1 h2 h3 hin;go_wp2_with fail
   go_end0
   exact HE.out
open Go.RowKit
def afterL {α:Type} (Li:List α):Except Int (List Int×List α)→Except Int (List Int×List α)
 | .error x=>.error x
 | .ok (s,L)=>.ok (s,Li++L)
theorem afterL_nil {α:Type} (R:Except Int (List Int×List α)):afterL [] R=R:=by
 cases R with
 | error x=>rfl
 | ok y=>rfl
theorem afterL_app {α:Type} (A B:List α) (R:Except Int (List Int×List α)):afterL A (afterL B R)=afterL (A++B) R:=by
 cases R with
 | error x=>rfl
 | ok y=>obtain⟨s,L⟩:=y;simp[afterL]
theorem valsL_err {d:List Rg} {r:Int} {seen:List Int} {e:En} {l:List En} {x:Int} (h:valL d r seen e.v=.error x):valsL d r seen (e::l)=.error x:=by
 unfold valsL;rw[h]
theorem valsL_ok {d:List Rg} {r:Int} {seen s:List Int} {e:En} {l:List En} {v:Tv} (h:valL d r seen e.v=.ok (s,v)):valsL d r seen (e::l)=afterL [(e.key,v)] (valsL d r s l):=by
 rw[valsL,h];dsimp only;cases valsL d r s l with
 | error x=>rfl
 | ok y=>rfl
theorem kidsL_err {f:List Int→Int→Except Int (List Int×Tr)} {seen:List Int} {e:En} {l:List En} {x:Int} (h:f seen e.v.page=.error x):kidsL f seen (e::l)=.error x:=by
 unfold kidsL;rw[h]
theorem kidsL_ok {f:List Int→Int→Except Int (List Int×Tr)} {seen s:List Int} {e:En} {l:List En} {v:Tr} (h:f seen e.v.page=.ok (s,v)):kidsL f seen (e::l)=afterL [(e.key,v)] (kidsL f s l):=by
 rw[kidsL,h];dsimp only;cases kidsL f s l with
 | error x=>rfl
 | ok y=>rfl
def DOk (d:List Rg):Prop:=∀x∈d,x.size≤1000
theorem paged_range {d:List Rg} {r p:Int} (hd:DOk d) (h:pagedE d r p=0):0≤p∧p≤999:=by
 obtain⟨i,pn,x,rfl,rfl,h1,_,h2⟩:=pagedE_zero h;have:=hd x (List.mem_of_getElem? h1);omega
theorem LdIn.dok {T:Nat} {w:World} {lb mb da M:Nat} {d:List Rg} {r:Int} {seen:List Int} (h:LdIn T w lb mb da M d r seen):DOk d:=by
 obtain⟨F,bs,h1,_⟩:=h.dsk;intro x hx;obtain⟨i,hi⟩:=List.getElem?_of_mem hx;have hl:=h1.len;have hlt:=(List.getElem?_eq_some_iff.1 hi).1;obtain⟨mb,n,v,_,_,_,_,_,_,_,_,h9,_⟩:=h1.reg i (bs[i]'(by omega)) x (by simp) hi;exact h9
theorem leaf_page {l:List En} (h:nodeB true l=true):∀e∈l,I64 e.v.page∧(e.v.far=true→pgC e.v.page=true):=fun e he=>by
 obtain⟨i,hi⟩:=nodeB_may h e he;simp only[mayN,if_true,mayL] at hi
 split at hi
 ·rename_i hf
  simp only[Bool.and_eq_true] at hi;have h1:=(pageB_iff _).1 hi.2.2.2.2;exact⟨by unfold I64;omega,fun _=>by simp[pgC];omega⟩
 ·rename_i hf
  simp only[Bool.and_eq_true,beq_iff_eq] at hi;exact⟨by rw[hi.2.2.2];unfold I64;omega,fun h=>absurd h hf⟩
theorem valL_seen {d:List Rg} {r:Int} {seen s:List Int} {v:Vv} {x:Tv} (h:valL d r seen v=.ok (s,x)) (hv:v.far=true→pgC v.page=true) (hs:SeenOk seen):SeenOk s∧∃l,s=seen++l:=by
 unfold valL at h
 split at h
 ·cases h;exact⟨hs,[],by simp⟩
 ·rename_i hf
  split at h
  ·cases h
  ·split at h
   ·cases h
   ·rename_i s' he
    cases h;refine⟨hs.see he (fun p hp=>?_),_,seeL_app he⟩
    rcases(getDC_at _ _ _ _).1 p hp with e|e
    ·have:=pgC_lt (hv (by simpa using hf));rw[e];omega
    ·have:=pgC_lt e;omega
theorem kidsL_seen {f:List Int→Int→Except Int (List Int×Tr)} (hf:∀seen p s t,p≠0→SeenOk seen→f seen p=.ok (s,t)→SeenOk s∧∃l,s=seen++l):∀{l:List En} {seen s:List Int} {L:List (List UInt8×Tr)},(∀e∈l,e.v.page≠0)→SeenOk seen→kidsL f seen l=.ok (s,L)→SeenOk s∧∃l,s=seen++l
 | [],seen,s,L,_,hs,h=>by cases h;exact⟨hs,[],by simp⟩
 | e::l,seen,s,L,hl,hs,h=>by
  unfold kidsL at h
  split at h
  ·cases h
  ·rename_i s1 t1 h1
   split at h
   ·cases h
   ·rename_i s2 L2 h2
    cases h;obtain⟨k1,l1,rfl⟩:=hf _ _ _ _ (hl e (by simp)) hs h1;obtain⟨k2,l2,rfl⟩:=kidsL_seen hf (fun e he=>hl e (List.mem_cons_of_mem _ he)) k1 h2;exact⟨k2,l1++l2,by simp⟩
theorem valsL_seen {d:List Rg} {r:Int}:∀{l:List En} {seen s:List Int} {L:List (List UInt8×Tv)},(∀e∈l,e.v.far=true→pgC e.v.page=true)→SeenOk seen→valsL d r seen l=.ok (s,L)→SeenOk s∧∃l,s=seen++l
 | [],seen,s,L,_,hs,h=>by cases h;exact⟨hs,[],by simp⟩
 | e::l,seen,s,L,hl,hs,h=>by
  unfold valsL at h
  split at h
  ·cases h
  ·rename_i s1 t1 h1
   split at h
   ·cases h
   ·rename_i s2 L2 h2
    cases h;obtain⟨k1,l1,rfl⟩:=valL_seen h1 (hl e (by simp)) hs;obtain⟨k2,l2,rfl⟩:=valsL_seen (fun e he=>hl e (List.mem_cons_of_mem _ he)) k1 h2;exact⟨k2,l1++l2,by simp⟩
theorem loadT_seen {d:List Rg} {r:Int} (hd:DOk d):∀{n:Nat} {seen s:List Int} {p:Int} {t:Tr},p≠0→SeenOk seen→loadT d r n seen p=.ok (s,t)→SeenOk s∧∃l,s=seen++l
 | 0,_,_,_,_,_,_,h=>by cases h
 | n+1,seen,s,p,t,hp,hs,h=>by
  unfold loadT at h
  split at h
  ·cases h
  ·rename_i hm
   split at h
   ·cases h
   ·rename_i hP
    split at h
    ·cases h
    ·rename_i hE
     have hr:=paged_range hd (by simpa using hP);have hE0:getNE (readB d r p)=0:=by simpa using hE
     have hs1:=hs.snoc hm hr.1 hr.2
     split at h
     ·rename_i hF
      split at h
      ·cases h
      ·rename_i hv
       cases h;have hN:=getN_node hE0;rw[hF] at hN;obtain⟨k,l,rfl⟩:=valsL_seen (fun e he=>(leaf_page hN e he).2) hs1 hv;exact⟨k,p::l,by simp⟩
     ·rename_i hF
      split at h
      ·cases h
      ·rename_i hv
       cases h;have hN:=getN_node hE0;obtain⟨_,_,n3⟩:=nodeB_small hN;obtain⟨k,l,rfl⟩:=kidsL_seen (fun _ _ _ _ hp hs h=>loadT_seen hd hp hs h) (fun e he=>by have:=n3 (by simpa using hF) e he;omega) hs1 hv;exact⟨k,p::l,by simp⟩
inductive Bare:Tr→Prop
 | leaf {l:List (List UInt8×Tv)}:(∀c∈l,c.2.pages=[])→Bare (.leaf 0 l)
 | node {l:List (List UInt8×Tr)}:(∀c∈l,Bare c.2)→Bare (.node 0 l)
def CBare (l:List (List UInt8×Tr)):Prop:=∀c∈l,Bare c.2
theorem bare_zero:Bare Tr.zero:=.leaf (by simp)
theorem Bare.page0 {t:Tr} (h:Bare t):t.page=0:=by cases h<;>rfl
theorem bare_kids {p:Int} {l:List (List UInt8×Tr)} (h:Bare (.node p l)):p=0∧CBare l:=by cases h with|node h=>exact⟨rfl,h⟩
theorem bare_vals {p:Int} {l:List (List UInt8×Tv)} (h:Bare (.leaf p l)):p=0∧∀c∈l,c.2.pages=[]:=by cases h with|leaf h=>exact⟨rfl,h⟩
theorem CBare.kid {l:List (List UInt8×Tr)} (h:CBare l) (k:Nat):Bare (kidAt l k):=by
 unfold kidAt;cases hk:l[k]? with
 | none=>exact bare_zero
 | some c=>exact h c (List.mem_of_getElem? hk)
theorem CBare.take {l:List (List UInt8×Tr)} (h:CBare l) (k:Nat):CBare (l.take k):=fun c hc=>h c (List.mem_of_mem_take hc)
theorem CBare.drop {l:List (List UInt8×Tr)} (h:CBare l) (k:Nat):CBare (l.drop k):=fun c hc=>h c (List.mem_of_mem_drop hc)
theorem CBare.append {l m:List (List UInt8×Tr)} (h:CBare l) (g:CBare m):CBare (l++m):=fun c hc=>(List.mem_append.1 hc).elim (h c) (g c)
theorem CBare.cons {c:List UInt8×Tr} {l:List (List UInt8×Tr)} (h:Bare c.2) (g:CBare l):CBare (c::l):=fun x hx=>(List.mem_cons.1 hx).elim (fun e=>e ▸ h) (g x)
theorem CBare.firstK {l:List (List UInt8×Tr)} (h:CBare l) (key:List UInt8):CBare (firstK key l):=by
 cases l with
 | nil=>exact h
 | cons c r=>exact CBare.cons (h c (by simp)) (fun x hx=>h x (List.mem_cons_of_mem _ hx))
theorem bare_part {t:Tr} (h:Bare t) (k:Nat):Bare (partT k t).1∧Bare (partT k t).2.1:=by
 cases h with
 | leaf h=>exact⟨.leaf fun c hc=>h c (List.mem_of_mem_take hc),.leaf fun c hc=>h c (List.mem_of_mem_drop hc)⟩
 | node h=>exact⟨.node (CBare.take h k),.node ((CBare.drop h k).firstK [])⟩
theorem bare_split {l m:List (List UInt8×Tr)} (h:CBare l) {k:Nat} (hs:splitT l k=some m):CBare m:=by
 unfold splitT at hs
 split at hs
 ·cases hs
 ·cases hs
  have hp:=bare_part (h.kid k) (atF (sizesT (kidAt l k))).toNat;exact(h.take k).append (CBare.cons hp.1 (CBare.cons hp.2 (h.drop _)))
theorem bare_join {a b:Tr} (ha:Bare a) (hb:Bare b) (key:List UInt8):Bare (joinT key a b):=by
 cases ha with
 | leaf h=>
  cases hb with
  | leaf g=>exact .leaf fun c hc=>(List.mem_append.1 hc).elim (h c) (g c)
  | node g=>exact .leaf h
 | node h=>
  cases hb with
  | leaf g=>exact .node h
  | node g=>exact .node (CBare.append h (CBare.firstK g key))
theorem bare_joined {l:List (List UInt8×Tr)} (h:CBare l) (j:Nat):CBare (joined l j):=
 (h.take j).append (CBare.cons (bare_join (h.kid j) (h.kid (j+1)) _) (h.drop _))
theorem bare_mend {l:List (List UInt8×Tr)} (h:CBare l) (k:Nat):Bare (mendT 0 l k):=by
 unfold mendT
 split
 ·rename_i m hm;exact .node (bare_split h hm)
 ·split
  ·exact .node h
  ·split
   ·rename_i m hm;exact .node (bare_split (bare_joined h _) hm)
   ·exact .node (bare_joined h _)
theorem CBare.set {l:List (List UInt8×Tr)} (h:CBare l) (k:Nat) {c:List UInt8×Tr} (hc:Bare c.2):CBare (l.set k c):=fun x hx=>(List.mem_or_eq_of_mem_set hx).elim (h x) (fun e=>e ▸ hc)
theorem bare_put {v:Tv} (hv:v.pages=[]) {key:List UInt8}:∀{n:Nat} {t:Tr},Bare t→Bare (putT n t key v)
 | 0,_,h=>h
 | n+1,.leaf _ l,h=>by
  obtain⟨_,hl⟩:=bare_vals h;exact .leaf fun c hc=>(putL_mem hc).elim (fun e=>e ▸ hv) (hl c)
 | n+1,.node _ l,h=>by
  obtain⟨_,hl⟩:=bare_kids h;exact bare_mend (hl.set _ (bare_put hv (hl.kid _))) _
theorem bare_top:∀{n:Nat} {t:Tr},Bare t→Bare (topT n t)
 | 0,_,h=>h
 | n+1,.node p l,h=>by
  obtain⟨rfl,hl⟩:=bare_kids h;unfold topT
  split
  ·exact bare_top (hl.kid 0)
  ·split
   ·exact h
   ·exact bare_mend (fun c hc=>by simp at hc;subst hc;exact h) 0
 | n+1,.leaf p l,h=>by
  unfold topT
  split
  ·exact h
  ·exact bare_mend (fun c hc=>by simp at hc;subst hc;exact h) 0
theorem bare_putW {n:Nat} {t:Tr} {key:List UInt8} {v:Tv} (h:Bare t) (hv:v.pages=[]):Bare (putW n t key v):=bare_top (bare_put hv h)
def freshN:Nat→Tr→Nat
 | 0,_=>0
 | _+1,.leaf _ l=>if l=[] then 0 else 1+(l.map fun c=>needC c.2.data.length).sum
 | n+1,.node _ l=>1+(l.map fun c=>freshN n c.2).sum
abbrev Wr:=Int×List UInt8
def layVs:List (List UInt8×Tv)→List Int→List (List UInt8×Tv)×List Wr×List Int
 | [],s=>([],[],s)
 | c::r,s=>
  if needC c.2.data.length=0 then (c::(layVs r s).1,(layVs r s).2.1,(layVs r s).2.2)
  else ((c.1,⟨c.2.data,s.take (needC c.2.data.length)⟩)::(layVs r (s.drop (needC c.2.data.length))).1,
   (s.take (needC c.2.data.length)).zip (putLC c.2.data (s.take (needC c.2.data.length)))++(layVs r (s.drop (needC c.2.data.length))).2.1,(layVs r (s.drop (needC c.2.data.length))).2.2)
def layKs (f:Tr→List Int→Tr×List Wr×List Int):List (List UInt8×Tr)→List Int→List (List UInt8×Tr)×List Wr×List Int
 | [],s=>([],[],s)
 | c::r,s=>((c.1,(f c.2 s).1)::(layKs f r (f c.2 s).2.2).1,(f c.2 s).2.1++(layKs f r (f c.2 s).2.2).2.1,(layKs f r (f c.2 s).2.2).2.2)
def entV (c:List UInt8×Tv):En:=if c.2.pages=[] then ⟨c.1,⟨c.2.data,false,0,0⟩⟩ else ⟨c.1,⟨[],true,c.2.data.length,c.2.pages.headD 0⟩⟩
def entK (c:List UInt8×Tr):En:=⟨c.1,⟨[],false,0,c.2.page⟩⟩
def layT:Nat→Tr→List Int→Tr×List Wr×List Int
 | 0,t,s=>(t,[],s)
 | _+1,.leaf p l,s=>
  if l=[] then (.leaf p l,[],s)
  else (.leaf ((layVs l s).2.2.headD 0) (layVs l s).1,(layVs l s).2.1++[((layVs l s).2.2.headD 0,putN true ((layVs l s).1.map entV))],(layVs l s).2.2.drop 1)
 | n+1,.node _ l,s=>
  (.node ((layKs (layT n) l s).2.2.headD 0) (layKs (layT n) l s).1,(layKs (layT n) l s).2.1++[((layKs (layT n) l s).2.2.headD 0,putN false ((layKs (layT n) l s).1.map entK))],(layKs (layT n) l s).2.2.drop 1)
theorem layVs_left:∀(l:List (List UInt8×Tv)) (s:List Int),(layVs l s).2.2=s.drop (l.map fun c=>needC c.2.data.length).sum
 | [],s=>by simp[layVs]
 | c::r,s=>by
  unfold layVs
  split
  ·rename_i h;simp only[List.map_cons,List.sum_cons,h,Nat.zero_add];exact layVs_left r s
  ·simp only[List.map_cons,List.sum_cons]
   rw[layVs_left r,List.drop_drop]
theorem layKs_left {f:Tr→List Int→Tr×List Wr×List Int} {g:Tr→Nat} (hf:∀t s,(f t s).2.2=s.drop (g t)):∀(l:List (List UInt8×Tr)) (s:List Int),(layKs f l s).2.2=s.drop (l.map fun c=>g c.2).sum
 | [],s=>by simp[layKs]
 | c::r,s=>by
  unfold layKs;simp only[List.map_cons,List.sum_cons];rw[layKs_left hf r,hf,List.drop_drop]
theorem layT_left:∀(n:Nat) (t:Tr) (s:List Int),(layT n t s).2.2=s.drop (freshN n t)
 | 0,t,s=>by simp[layT,freshN]
 | n+1,.leaf p l,s=>by
  unfold layT freshN
  split
  ·simp
  ·rw[layVs_left,List.drop_drop,Nat.add_comm]
 | n+1,.node p l,s=>by
  unfold layT freshN;dsimp only;rw[layKs_left (fun t s=>layT_left n t s),List.drop_drop,Nat.add_comm]
open Go.RowKit
open Go.RowKit
theorem tempty_any (w:World) (F:Nat→Prop):Calls Tryz.prog 50 #[] w (NodeTo F 1 w (.leaf 0 [])):=by
 go_enter Tryz.func50,Tryz.ntmps50;go_wp2_with fail;refine bodyPost_ret (v:=.agg #[.int .i64 0,.bool true,.slice none 0 0,.slice none 0 0,.slice none 0 0]) (by simp[results,Tryz.results50,go_sem]) rfl ⟨[.int .i64 0,.bool true,.slice none 0 0,.slice none 0 0,.slice none 0 0],rfl,?_,?_⟩
 ·exact NodeOn.shut (V:=[]) (C:=[]) rfl rfl (K:=[]) rfl (Raw.nil0 _ _) (Raw.nil0 _ _) (Raw.nil0 _ _) (Fa.zero _ _) (Fa.zero _ _) (Fa.zero _ _) ⟨Tells.nil,Tells.nil,rfl⟩
 ·exact Below.al (Below.refl _ _)
open Go.RowKit
open Go.RowKit
theorem shape_cnt {n:Nat} {lo hi:List UInt8} {t:Tr} (h:Shape n lo hi t) (hs:sumT t≤200):cntT t≤50:=by
 have h1:=len_sum (fun x hx=>(shape_cells h x hx).1);have e:(sizesT t).length=cntT t:=sizes_len t;have:sumI (sizesT t)=sumT t:=rfl;omega
theorem kid_keys {P:List UInt8→List UInt8→Tr→Prop} {lo hi:List UInt8} {l:List (List UInt8×Tr)} (h:KidsP P lo hi l) (h0:keyAt l 0=[]):∀c∈l,c.1.length≤16:=by
 cases l with
 | nil=>intro c hc;cases hc
 | cons c r=>
  intro d hd
  rcases List.mem_cons.1 hd with rfl|hd
  ·have:d.1=[]:=by simpa[keyAt] using h0
   rw[this];simp
  ·exact(kids_keys h d hd).2
theorem shape_bnd:∀{n:Nat} {lo hi:List UInt8} {t:Tr},Shape n lo hi t→sumT t≤200→Bnd n t
 | 0,_,_,_,h,_=>h.elim
 | n+1,lo,hi,.leaf p l,h,hs=>by
  have hc:=shape_cnt h hs;obtain⟨rfl,hl⟩:=h;have:l.length≤50:=hc;refine⟨by omega,fun c hm=>?_⟩;obtain⟨h1,_,_,h2⟩:=hl.2 c hm;have:=h1.2;have:=h2.1;omega
 | n+1,lo,hi,.node p l,h,hs=>by
  have hc:=shape_cnt h hs;obtain⟨h1,h0⟩:=shape_kids h;have:l.length≤50:=hc;refine⟨by omega,fun c hm=>⟨by have:=kid_keys h1 h0 c hm;omega,?_⟩⟩;obtain⟨lo',hi',g⟩:=kids_each h1 c hm;exact shape_bnd g.1 (by have:=g.2.2;omega)
theorem bnd_join {n:Nat} {key:List UInt8} {x y:Tr} (hx:Bnd (n+1) x) (hy:Bnd (n+1) y) (h1:cntT x≤400) (h2:cntT y≤400) (hk:key.length≤200):Bnd (n+1) (joinT key x y):=by
 cases x with
 | leaf p l=>
  cases y with
  | leaf q m=>
   have h1:l.length≤400:=h1;have h2:m.length≤400:=h2;refine⟨by simp;omega,fun c hc=>?_⟩
   rcases List.mem_append.1 hc with hc|hc
   ·exact hx.2 c hc
   ·exact hy.2 c hc
  | node q m=>exact hx
 | node p l=>
  cases y with
  | leaf q m=>exact hx
  | node q m=>
   have h1:l.length≤400:=h1;have h2:m.length≤400:=h2;have e:(firstK key m).length=m.length:=by cases m<;>rfl
   refine⟨by rw[List.length_append];omega,fun c hc=>?_⟩
   rcases List.mem_append.1 hc with hc|hc
   ·exact hx.2 c hc
   ·cases m with
    | nil=>cases hc
    | cons d r=>
     rcases List.mem_cons.1 hc with rfl|hc
     ·exact⟨hk,(hy.2 d (by simp)).2⟩
     ·exact hy.2 c (List.mem_cons_of_mem _ hc)
theorem mendOk_of {m:Nat} {l:List (List UInt8×Tr)} (hlen:l.length≤1000) (h:∀c∈l,c.1.length≤200∧∃lo hi,Shape (m+1) lo hi c.2∧sumT c.2≤200):MendOk m l where
 len:=hlen
 bnd:=fun c hc=>by obtain⟨_,lo,hi,h1,h2⟩:=h c hc;exact shape_bnd h1 h2
 kind:=fun c hc d hd=>by
  obtain⟨_,lo,hi,h1,_⟩:=h c hc;obtain⟨_,lo',hi',h2,_⟩:=h d hd;rw[shape_kind h1,shape_kind h2]
 some_:=fun c hc hl=>by
  obtain⟨_,lo,hi,h1,_⟩:=h c hc;cases hcc:c.2 with
  | leaf p l=>rw[hcc] at hl;cases hl
  | node p l=>rw[hcc] at h1;exact List.length_pos_iff.2 (kids_ne (shape_kids h1).1)
 both:=fun j hj=>by
  obtain⟨c,hc,ec⟩:=kid_mem (l:=l) (k:=j) (by omega);obtain⟨d,hd,ed⟩:=kid_mem (l:=l) (k:=j+1) hj;obtain⟨_,lo,hi,h1,s1⟩:=h c hc;obtain⟨_,lo',hi',h2,s2⟩:=h d hd;have hk:(keyAt l (j+1)).length≤200:=by
   have:=(h l[j+1] (List.getElem_mem hj)).1;simpa[keyAt,hj] using this
  rw[←ec,←ed];exact bnd_join (shape_bnd h1 s1) (shape_bnd h2 s2) (by have:=shape_cnt h1 s1;omega) (by have:=shape_cnt h2 s2;omega) hk
theorem node_kids {n:Nat} {lo hi:List UInt8} {p:Int} {l:List (List UInt8×Tr)} (h:Shape (n+1) lo hi (.node p l)):∀c∈l,c.1.length≤200∧∃lo hi,Shape n lo hi c.2∧sumT c.2≤200:=by
 obtain⟨h1,h0⟩:=shape_kids h;intro c hc;obtain⟨lo',hi',g⟩:=kids_each h1 c hc;exact⟨by have:=kid_keys h1 h0 c hc;omega,lo',hi',g.1,by have:=g.2.2;omega⟩
theorem set_kids {n:Nat} {l:List (List UInt8×Tr)} (h:∀c∈l,c.1.length≤200∧∃lo hi,Shape n lo hi c.2∧sumT c.2≤200) {k:Nat} {key:List UInt8} {T:Tr} (hk:key.length≤200) {lo hi:List UInt8} (hT:Shape n lo hi T) (hs:sumT T≤200) :
 ∀c∈l.set k (key,T),c.1.length≤200∧∃lo hi,Shape n lo hi c.2∧sumT c.2≤200:=by
 intro c hc
 rcases List.mem_or_eq_of_mem_set hc with hc|rfl
 ·exact h c hc
 ·exact⟨hk,lo,hi,hT,hs⟩
theorem key_len {n:Nat} {l:List (List UInt8×Tr)} (h:∀c∈l,c.1.length≤200∧∃lo hi,Shape n lo hi c.2∧sumT c.2≤200) (k:Nat):(keyAt l k).length≤200:=by
 unfold keyAt;cases e:l[k]? with
 | none=>simp
 | some c=>exact(h c (List.mem_of_getElem? e)).1
theorem putOk_of:∀{n:Nat} {lo hi key:List UInt8} {v:Tv} {t:Tr},Shape n lo hi t→sumT t≤122→(∀p l,t=.node p l→2≤l.length)→keyOk key→¬key<lo→ltH hi key→valOk v→PutOk n t key v
 | 0,_,_,_,_,_,h,_,_,_,_,_,_=>h.elim
 | n+1,lo,hi,key,v,.leaf p l,h,hs,_,hk,hlo,hhi,hv=>by
  have hc:l.length≤50:=shape_cnt h (by omega);obtain⟨rfl,hl⟩:=h;exact⟨by omega,hl.1⟩
 | n+1,lo,hi,key,v,.node p l,h,hs,h2,hk,hlo,hhi,hv=>by
  have hc:l.length≤50:=shape_cnt h (by omega);have hall:=node_kids h;obtain⟨h1,h0⟩:=shape_kids h;have hl2:=h2 p l rfl;obtain⟨a,c,b,lo',hi',e,hal,hcx,hp,g1,g2⟩:=way_focus h1 hlo hhi;have hkid:kidAt l (wayF (keysOf l) key)=c.2:=by
   rw[←hal]
   conv=>lhs;rw[e]
   exact kidAt_at a b c
  have i0:=putOk_of hp.1 hp.2.2 (fun q m e=>good_len (p:=q) (by rw[←e];exact hp)) hk g1 g2 hv;obtain⟨i1,i2,_⟩:=put_ok hp.1 hp.2.2 (fun q m e=>good_len (p:=q) (by rw[←e];exact hp)) hk g1 g2 hv;cases n with
  | zero=>exact hp.1.elim
  | succ m=>
   refine⟨by omega,by omega,by rw[hkid];exact i0,m,rfl,?_⟩;rw[hkid];exact mendOk_of (by simp;omega) (set_kids hall (key_len hall _) i1 (by omega))
theorem topOk_of:∀{n:Nat} {t:Tr},Shape n [] [] t→sumT t≤200→TopOk n t
 | 0,_,h,_=>h.elim
 | n+1,t,h,hs=>by
  refine⟨shape_bnd h hs,fun hl=>?_,fun p l e h1=>?_⟩
  ·cases t with
   | leaf p l=>cases hl
   | node p l=>exact List.length_pos_iff.2 (kids_ne (shape_kids h).1)
  ·subst e
   obtain⟨hk,h0⟩:=shape_kids h;obtain⟨c,rfl⟩:=List.length_eq_one_iff.1 h1;have hg:Good n [] [] c.2:=hk;have:=topOk_of hg.1 (by have:=hg.2.2;omega);simpa[kidAt] using this
theorem Whole.bnd {n:Nat} {t:Tr} (h:Whole n t):Bnd n t:=shape_bnd h.1.1 (by have:=h.1.2.1;omega)
theorem Whole.put {n:Nat} {t:Tr} {key:List UInt8} {v:Tv} (h:Whole n t) (hk:keyOk key) (hv:valOk v):PutOk n t key v∧TopOk n (putT n t key v):=by
 obtain⟨i1,i2,_⟩:=put_ok h.1.1 h.1.2.1 h.1.2.2 hk (knil key) (ltH_nil _) hv;exact⟨putOk_of h.1.1 h.1.2.1 h.1.2.2 hk (knil key) (ltH_nil _) hv,topOk_of i1 (by omega)⟩
theorem NodeOn.less {F:Nat→Prop}:∀{m n:Nat} {lo hi:List UInt8} {w:World} {cs:List Value} {t:Tr},NodeOn F n w cs t→Shape m lo hi t→NodeOn F m w cs t
 | 0,_,_,_,_,_,_,_,h=>h.elim
 | _,0,_,_,_,_,_,h,_=>h.elim
 | m+1,n+1,lo,hi,w,cs,.leaf p l,h,_=>h
 | m+1,n+1,lo,hi,w,cs,.node p l,h,hs=>by
  obtain⟨ka,kn,kc,va,vc,ca,cn,cc,e,h1,f1,h2,h3,f3⟩:=h;refine⟨ka,kn,kc,va,vc,ca,cn,cc,e,h1,f1,h2,?_,f3⟩;have hall:=node_kids hs;exact TabR.agree h3 (Fa.mono f3 (fun _ h=>h)) (AgreeF.refl w) (fun cs y hy h=>by
   obtain⟨c,hc,rfl⟩:=List.mem_map.1 hy;obtain⟨_,lo',hi',g,_⟩:=hall c hc;exact NodeOn.less h g)
theorem sumI_kids (l:List (List UInt8×Tr)) (p:Int) (h1:l.length=1) (h0:keyAt l 0=[]):sumT (.node p l)=4:=by
 match l,h1,h0 with
 | [c],_,h0=>
  have:c.1=[]:=h0;simp[sumT,sizesT,sumI,this]
theorem fresh_good:∀{n:Nat} {lo hi:List UInt8} {t:Tr},Shape n lo hi t→30≤sumT t→freshN n t+1≤6*(entsT n t).length
 | 0,_,_,_,h,_=>h.elim
 | n+1,lo,hi,.leaf p l,h,hs=>by
  have hne:l≠[]:=fun e=>by subst e;simp[sumT,sizesT,sumI] at hs
  have hpos:=List.length_pos_iff.2 hne;have hsum:∀l:List (List UInt8×Tv),(l.map fun c=>needC c.2.data.length).sum≤4*l.length:=fun l=>by
   induction l with
   | nil=>simp
   | cons c r ih=>simp only[List.map_cons,List.sum_cons,List.length_cons];have:=needC_le (c.2.data.length:Int);omega
  have:=hsum l;rw[freshN,if_neg hne,entsT];omega
 | n+1,lo,hi,.node p l,h,hs=>by
  obtain⟨h1,h0⟩:=h;have hne:=kids_ne h1;have hlen:l.length≠1:=fun e=>by rw[sumI_kids l p e h0] at hs;omega
  have hpos:=List.length_pos_iff.2 hne;have hall:∀c∈l,freshN n c.2+1≤6*(entsT n c.2).length:=fun c hc=>by
   obtain⟨lo',hi',g1,g2,_⟩:=kids_each h1 c hc;exact fresh_good g1 g2
  have hsum:∀l:List (List UInt8×Tr),(∀c∈l,freshN n c.2+1≤6*(entsT n c.2).length)→(l.map fun c=>freshN n c.2).sum+l.length≤6*(l.flatMap fun c=>entsT n c.2).length:=fun l hl=>by
   exact q764334
  have:=hsum l hall;rw[freshN,entsT];omega
theorem fresh_whole {n:Nat} {t:Tr} (h:Whole n t):freshN n t≤6*(entsT n t).length:=by
 obtain⟨⟨h1,_,h3⟩,_⟩:=h;cases n with
 | zero=>exact h1.elim
 | succ n=>
  cases t with
  | leaf p l=>
   have hsum:∀l:List (List UInt8×Tv),(l.map fun c=>needC c.2.data.length).sum≤4*l.length:=fun l=>by
    induction l with
    | nil=>simp
    | cons c r ih=>simp only[List.map_cons,List.sum_cons,List.length_cons];have:=needC_le (c.2.data.length:Int);omega
   have:=hsum l;rw[freshN,entsT]
   split
   ·omega
   ·rename_i hne
    have:=List.length_pos_iff.2 hne;omega
  | node p l=>
   obtain⟨k1,_⟩:=h1;have hall:∀c∈l,freshN n c.2+1≤6*(entsT n c.2).length:=fun c hc=>by
    obtain⟨lo',hi',g1,g2,_⟩:=kids_each k1 c hc;exact fresh_good g1 g2
   have hsum:∀l:List (List UInt8×Tr),(∀c∈l,freshN n c.2+1≤6*(entsT n c.2).length)→(l.map fun c=>freshN n c.2).sum+l.length≤6*(l.flatMap fun c=>entsT n c.2).length:=fun l hl=>by
    exact q764334
   have:=hsum l hall;have:=h3 p l rfl;rw[freshN,entsT];omega
theorem putL_len (key:List UInt8) (v:Tv):∀l:List (List UInt8×Tv),(putL key v l).length≤l.length+1
 | []=>by simp[putL]
 | c::r=>by
  have:=putL_len key v r;unfold putL
  split
  ·simp only[List.length_cons];omega
  ·split<;>simp
structure Pz where
 key:List UInt8
 size:Int
def Pz.ok (p:Pz):Prop:=p.key≠[]∧p.key.length≤16∧0≤p.size∧p.size≤400
def Pz.val (p:Pz):Tv:=⟨List.replicate p.size.toNat 0,[]⟩
inductive LaidR:List Pz→Nat→Tr→Prop
 | nil:LaidR [] 1 (.leaf 0 [])
 | put {l:List Pz} {m m':Nat} {t:Tr} {p:Pz}:LaidR l m t→p.ok→m'≤m+1→Whole m' (putW m t p.key p.val)→entsT m' (putW m t p.key p.val)=putL p.key p.val (entsT m t)→LaidR (l++[p]) m' (putW m t p.key p.val)
theorem LaidR.whole {l:List Pz} {m:Nat} {t:Tr} (h:LaidR l m t):Whole m t:=by
 cases h with
 | nil=>exact whole_empty
 | put _ _ _ h _=>exact h
theorem LaidR.bare {l:List Pz} {m:Nat} {t:Tr} (h:LaidR l m t):Bare t:=by
 induction h with
 | nil=>exact .leaf (by simp)
 | put _ _ _ _ _ ih=>exact bare_putW ih rfl
theorem LaidR.ents {l:List Pz} {m:Nat} {t:Tr} (h:LaidR l m t):(entsT m t).length≤l.length∧m≤l.length+1:=by
 induction h with
 | nil=>exact⟨by simp[entsT],by simp⟩
 | @put l m m' t p _ _ hm _ he ih=>
  rw[he];have:=putL_len p.key p.val (entsT m t);simp only[List.length_append,List.length_singleton];omega
theorem LaidR.fresh {l:List Pz} {m:Nat} {t:Tr} (h:LaidR l m t):freshN m t≤6*l.length:=by
 have:=fresh_whole h.whole;have:=h.ents.1;omega
theorem LaidR.more {l:List Pz} {m:Nat} {t:Tr} (h:LaidR l m t) {p:Pz} (hp:p.ok):∃m',m'≤m+1∧LaidR (l++[p]) m' (putW m t p.key p.val):=by
 obtain⟨m',h1,h2,h3⟩:=whole_put h.whole (key:=p.key) (v:=p.val) ⟨hp.1,hp.2.1⟩ ⟨by simp[Pz.val];have:=hp.2.2;omega,fun h=>absurd rfl h⟩;exact⟨m',h1,.put h hp h1 h2 h3⟩
open Go.RowKit
theorem seeL_ok:∀{l seen:List Int},l.Nodup→(∀p∈l,p∉seen)→seeL seen l=some (seen++l)
 | [],seen,_,_=>by simp[seeL]
 | p::r,seen,hn,hd=>by
  unfold seeL;rw[if_neg (hd p (by simp)),seeL_ok (List.nodup_cons.1 hn).2 (fun q hq hm=>?_)]
  ·simp
  ·rcases List.mem_append.1 hm with h|h
   ·exact hd q (List.mem_cons_of_mem _ hq) h
   ·rw[List.mem_singleton.1 h] at hq;exact(List.nodup_cons.1 hn).1 hq
def Spots (N:Nat) (s:List Int):Prop:=s.Nodup∧∀p∈s,pgC p=true∧p<N
theorem Spots.take {N:Nat} {s:List Int} (h:Spots N s) (k:Nat):Spots N (s.take k):=⟨h.1.sublist (List.take_sublist _ _),fun p hp=>h.2 p (List.mem_of_mem_take hp)⟩
theorem Spots.drop {N:Nat} {s:List Int} (h:Spots N s) (k:Nat):Spots N (s.drop k):=⟨h.1.sublist (List.drop_sublist _ _),fun p hp=>h.2 p (List.mem_of_mem_drop hp)⟩
theorem Spots.apart {N:Nat} {s:List Int} (h:Spots N s) (k:Nat) {p:Int} (hp:p∈s.drop k):p∉s.take k:=by
 have:=h.1;rw[←List.take_append_drop k s,List.nodup_append] at this;exact fun hq=>this.2.2 p hq p hp rfl
theorem Spots.apt {N:Nat} {s:List Int} (h:Spots N s):aptC s=true:=by
 rw[aptC,List.all_eq_true];intro i hi;have hi:=List.mem_range.1 hi;have e:atC s i=s[i]:=by simp[atC,hi]
 rw[e,Bool.and_eq_true];refine⟨(h.2 _ (List.getElem_mem hi)).1,?_⟩;have hm:s[i]∉s.take i:=h.apart i (by rw[List.drop_eq_getElem_cons hi];exact List.mem_cons_self);simpa using hm
def Stand (f:Nat→List UInt8) (W:List Wr):Prop:=∀x∈W,f x.1.toNat=x.2
theorem Stand.left {f:Nat→List UInt8} {A B:List Wr} (h:Stand f (A++B)):Stand f A:=fun x hx=>h x (List.mem_append_left _ hx)
theorem Stand.right {f:Nat→List UInt8} {A B:List Wr} (h:Stand f (A++B)):Stand f B:=fun x hx=>h x (List.mem_append_right _ hx)
theorem putLC_at {v:List UInt8} {at_:List Int} (hok:putOkC v at_=true) {i:Nat} (hi:i<at_.length):(putLC v at_)[i]? = some (pageC v at_ i):=by
 rw[putLC,hok,if_pos rfl];simp[hi]
theorem val_back {d:List Rg} {r N:Nat} {f:Nat→List UInt8} (hd:RegAt d r N f) {v:List UInt8} {s:List Int} (hs:Spots N s) (hn:needC v.length≠0) (hl:needC v.length≤s.length) (hw:Stand f ((s.take (needC v.length)).zip (putLC v (s.take (needC v.length))))) :
 getDC d r ((s.take (needC v.length)).headD 0) v.length=(v,s.take (needC v.length),0):=by
 obtain⟨at_,hat⟩:∃x,s.take (needC v.length)=x:=⟨_,rfl⟩
 have ha:Spots N at_:=by rw[←hat];exact hs.take _
 have hal:at_.length=needC v.length:=by rw[←hat,List.length_take];omega
 rw[hat] at hw ⊢;have hok:putOkC v at_=true:=by
  unfold putOkC;rw[ha.apt];simp[hn,hal]
 have h0:at_.headD 0=atC at_ 0:=by cases at_<;>simp[atC]
 rw[h0];refine gotC_back hok hd (fun i hi=>?_) (fun i hi=>?_)
 ·have e:atC at_ i=at_[i]:=by simp[atC,hi]
  rw[e];exact(ha.2 _ (List.getElem_mem hi)).2
 ·have e:atC at_ i=at_[i]:=by simp[atC,hi]
  have:=hw (at_[i],pageC v at_ i) (List.mem_of_getElem? (i:=i) (by
   rw[List.getElem?_zip_eq_some];exact⟨List.getElem?_eq_getElem hi,putLC_at hok hi⟩))
  rw[e];exact this
theorem layVs_cons {c:List UInt8×Tv} {r:List (List UInt8×Tv)} {s:List Int} (_hc:c.2.pages=[]) :
 ∃e:List UInt8×Tv,e.1=c.1∧e.2.data=c.2.data∧(layVs (c::r) s).1=e::(layVs r (s.drop (needC c.2.data.length))).1∧(layVs (c::r) s).2.2=(layVs r (s.drop (needC c.2.data.length))).2.2 ∧
  ((needC c.2.data.length=0∧e=c∧(layVs (c::r) s).2.1=(layVs r (s.drop (needC c.2.data.length))).2.1)∨(needC c.2.data.length≠0∧e=(c.1,⟨c.2.data,s.take (needC c.2.data.length)⟩)∧(layVs (c::r) s).2.1=(s.take (needC c.2.data.length)).zip (putLC c.2.data (s.take (needC c.2.data.length)))++(layVs r (s.drop (needC c.2.data.length))).2.1)):=by
 by_cases h:needC c.2.data.length=0
 ·refine⟨c,rfl,rfl,?_,?_,.inl ⟨h,rfl,?_⟩⟩<;>(rw[h,List.drop_zero];conv=>lhs;rw[layVs,if_pos h])
 ·refine⟨(c.1,⟨c.2.data,s.take (needC c.2.data.length)⟩),rfl,rfl,?_,?_,.inr ⟨h,rfl,?_⟩⟩<;>(conv=>lhs;rw[layVs,if_neg h])
theorem vals_back {d:List Rg} {r N:Nat} {f:Nat→List UInt8} (hd:RegAt d r N f):∀{l:List (List UInt8×Tv)} {s seen:List Int},(∀c∈l,c.2.pages=[])→Spots N s→(l.map fun c=>needC c.2.data.length).sum≤s.length→Stand f (layVs l s).2.1→(∀p∈s.take (l.map fun c=>needC c.2.data.length).sum,p∉seen) →
 valsL d r seen ((layVs l s).1.map entV)=.ok (seen++s.take (l.map fun c=>needC c.2.data.length).sum,(layVs l s).1)
 | [],s,seen,_,_,_,_,_=>by simp[layVs,valsL]
 | c::r9,s,seen,hp,hs,hl,hw,hd9=>by
  have hc:=hp c (by simp);simp only[List.map_cons,List.sum_cons] at hl hd9 ⊢;obtain⟨e,e1,e2,h1,h2,h3⟩:=layVs_cons (r:=r9) (s:=s) hc;obtain⟨k,hk⟩:∃x,needC c.2.data.length=x:=⟨_,rfl⟩
  rw[hk] at h1 h2 h3 hl hd9 ⊢;rw[List.take_add] at hd9;have hsd:Spots N (s.drop k):=hs.drop k;have hwd:Stand f (layVs r9 (s.drop k)).2.1:=by
   rcases h3 with⟨_,_,h3⟩|⟨_,_,h3⟩
   ·rw[h3] at hw;exact hw
   ·rw[h3] at hw;exact hw.right
  have hv:valL d r seen (entV e).v=.ok (seen++s.take k,e.2):=by
   rcases h3 with⟨h0,rfl,_⟩|⟨h0,rfl,h3⟩
   ·unfold entV
    rw[if_pos hc,h0];unfold valL;simp;obtain⟨_,⟨_,_⟩⟩:=e;simp at hc;simp[hc]
   ·have hne:s.take k≠[]:=fun e=>by
     have h9:(s.take k).length=0:=by rw[e];rfl
     rw[List.length_take] at h9;omega
    unfold entV;rw[if_neg hne];unfold valL;rw[h3] at hw;have hb:=val_back hd hs (v:=c.2.data) (by rw[hk];exact h0) (by rw[hk];omega) (by rw[hk];exact hw.left);rw[hk] at hb;have hsee:=seeL_ok (hs.take k).1 (fun p hp=>hd9 p (List.mem_append_left _ hp));simp only[if_neg (show ¬(true=false) by decide),hb,ne_eq,not_true_eq_false,if_false,hsee]
  have ih:=vals_back hd (l:=r9) (s:=s.drop k) (seen:=seen++s.take k) (fun c hc=>hp c (List.mem_cons_of_mem _ hc)) hsd (by rw[List.length_drop];omega) hwd (fun p hp hm=>by
   rcases List.mem_append.1 hm with h|h
   ·exact hd9 p (List.mem_append_right _ hp) h
   ·exact hs.apart k (List.mem_of_mem_take hp) h)
  rw[h1,List.map_cons,valsL_ok hv,ih];have hek:(entV e).key=e.1:=by unfold entV;split<;>rfl
  rw[hek,List.append_assoc,List.take_add]
  rfl
theorem upN_of {leaf:Bool} {l:List En} (h:∀i (hi:i<l.length),mayN leaf i l[i]=true) (hr:(l.map fun e=>e.key).Pairwise (fun a b=>a<b)):upN leaf l l.length=true:=by
 rw[upN,List.all_eq_true];intro i hi;have hi:=List.mem_range.1 hi;unfold stepN;rw[List.getElem?_eq_getElem hi,Option.getD_some,h i hi,Bool.true_and];cases i with
 | zero=>simp
 | succ i=>
  have hlt:l[i].key<l[i+1].key:=by
   have:=List.pairwise_iff_getElem.1 hr i (i+1) (by simp;omega) (by simp;omega) (by omega);simpa using this
  rw[Nat.add_sub_cancel,List.getElem?_eq_getElem (by omega),Option.getD_some];unfold kle;rw[decide_eq_false (klt_asymm hlt)];have:¬l[i+1].key=l[i].key:=fun e=>by rw[e] at hlt;exact klt_irrefl _ hlt
  simp[this]
theorem keyB_of {k:List UInt8} (h:keyOk k):keyB k=true:=by
 unfold keyB;simp[h.1,h.2]
theorem lens_cons (c:List UInt8) (l:List (List UInt8)):lens (c::l)=c.length+lens l:=by simp[lens]
theorem layVs_facts {N:Nat}:∀{l:List (List UInt8×Tv)} {s:List Int},(∀c∈l,keyOk c.1∧c.2.data.length≤400∧c.2.pages=[])→Spots N s→(l.map fun c=>needC c.2.data.length).sum≤s.length →
 ((layVs l s).1.map entV).map (fun e=>e.key)=keysOf l∧(∀e∈(layVs l s).1.map entV,mayL e=true)∧((layVs l s).1.map entV).length=l.length∧((l.length+lens (cellsN true ((layVs l s).1.map entV)):Nat):Int)=sumI (sizesT (.leaf 0 l))
 | [],s,_,_,_=>by simp[layVs,keysOf,cellsN,lens,sizesT,sumI]
 | c::r9,s,hp,hs,hl=>by
  have hc:=hp c (by simp);simp only[List.map_cons,List.sum_cons] at hl;obtain⟨e,e1,e2,h1,h2,h3⟩:=layVs_cons (r:=r9) (s:=s) hc.2.2;obtain⟨i1,i2,i3,i4⟩:=layVs_facts (l:=r9) (s:=s.drop (needC c.2.data.length)) (fun c hc=>hp c (List.mem_cons_of_mem _ hc)) (hs.drop _) (by rw[List.length_drop];omega);have hkb:=keyB_of hc.1;have hk16:=hc.1.2;have hd4:=hc.2.1;have hent:(entV e).key=c.1∧mayL (entV e)=true∧(cellN true (entV e)).length+1=3+vSz c.2+c.1.length:=by
   rcases h3 with⟨h0,rfl,_⟩|⟨h0,rfl,_⟩
   ·have h16:e.2.data.length≤16:=by
     unfold needC at h0
     split at h0
     ·omega
     ·omega
    unfold entV;rw[if_pos hc.2.2];refine⟨rfl,?_,?_⟩
    ·unfold mayL
     simp[hkb,h16]
    ·unfold cellN
     rw[List.length_append,textF_length,encV_length];unfold vSz;rw[if_pos h16];simp;omega
   ·have hpos:=needC_pos h0
    have hne:s.take (needC c.2.data.length)≠[]:=fun e=>by
     have h9:(s.take (needC c.2.data.length)).length=0:=by rw[e];rfl
     rw[List.length_take] at h9;omega
    have hpg:pgC ((s.take (needC c.2.data.length)).headD 0)=true:=by
     cases hq:s.take (needC c.2.data.length) with
     | nil=>exact absurd hq hne
     | cons x y=>exact((hs.take _).2 x (by rw[hq];simp)).1
    unfold entV;rw[if_neg hne];refine⟨rfl,?_,?_⟩
    ·unfold mayL
     have hpb:pageB ((s.take (needC c.2.data.length)).headD 0)=true:=hpg;simp only[if_true,hkb,hpb,Bool.true_and,Bool.and_true];simp;omega
    ·have hvs:vSz c.2=4:=by unfold vSz;exact if_neg (fun h=>by omega)
     unfold cellN;rw[List.length_append,textF_length,encV_length,hvs,Nat.min_eq_left (by show c.1.length≤255;omega),if_pos rfl,if_pos rfl];show c.1.length+1+5+1=_;omega
  rw[h1];refine⟨by simp only[List.map_cons,keysOf,hent.1] at i1 ⊢;rw[i1],fun x hx=>?_,by simpa using i3,?_⟩
  ·rcases List.mem_cons.1 hx with rfl|hx
   ·exact hent.2.1
   ·exact i2 x hx
  ·have h5:=hent.2.2
   simp only[List.map_cons,cellsN,lens_cons,sizesT,sumI_cons,List.length_cons] at i4 ⊢;have i5:(List.map (cellN true) (List.map entV (layVs r9 (List.drop (needC ↑c.snd.data.length) s)).fst))=cellsN true (List.map entV (layVs r9 (List.drop (needC ↑c.snd.data.length) s)).fst):=rfl;rw[i5] at i4 ⊢;omega
theorem leaf_nodeB {N:Nat} {lo hi:List UInt8} {l:List (List UInt8×Tv)} {s:List Int} (h:LeafOk lo hi l) (hp:∀c∈l,c.2.pages=[]) (hs:Spots N s) (hl:(l.map fun c=>needC c.2.data.length).sum≤s.length) (hne:l≠[]) (hsum:sumI (sizesT (.leaf 0 l))≤122):nodeB true ((layVs l s).1.map entV)=true:=by
 obtain⟨i1,i2,i3,i4⟩:=layVs_facts (fun c hc=>⟨(h.2 c hc).1,(h.2 c hc).2.2.2.1,hp c hc⟩) hs hl;unfold nodeB;rw[upN_of (fun i hi=>by
  show mayL _=true;exact i2 _ (List.getElem_mem hi)) (by rw[i1];exact h.1),Bool.true_and,Bool.and_eq_true,decide_eq_true_eq,decide_eq_true_eq,i3]
 have:=List.length_pos_iff.2 hne;exact⟨by show 1≤_;omega,by omega⟩
end Go.Proofs.YtpghlmcoajaiiaaGreatDoor
