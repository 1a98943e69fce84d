/- Texts that other texts of this claim lean on, one behind the other. -/
import Derived.Test.YtpghlmcoajaiiaaGreatDoorRows
import Derived.WalkKit
import Derived.WalkSpells
import Derived.WalkLawsBesides
import Derived.Lib.Hide
import Derived.RangeFuncRecord
import Derived.Deep.QuietTactic
import Derived.BigQuiet
import Derived.Laws.AppendOwn
import Derived.Laws.AppendOwnNone
import Derived.OrdersHeld
import Derived.Deep.RegionHeld3
import Derived.RegionTactic
set_option maxHeartbeats 20000000
set_option maxRecDepth 100000
namespace Go.Proofs.YtpghlmcoajaiiaaGreatDoor
open Go.RowKit
def Row (k:IntKind) (w:World) (a:Option Addr) (len cap:Nat) (l:List Int):Prop:=
 l.length=len∧len≤cap∧cap≤maxLen∧(a=none→cap=0)∧(len=0∨∃b off,a=some ⟨b,off,none⟩∧b<w.heap.size ∧
  ∀i,i<len→w.cell? ⟨b,off+i,none⟩=some (.int k (l[i]?.getD 0)))
theorem Row.of_frame {k:IntKind} {w:World} {a:Option Addr} {len cap:Nat} {zs:List Int}
 (h:(a=none∧len=0∧cap=0∧zs=[])∨∃x,a=some x∧len≤cap∧cap≤maxLen∧zs.length=cap∧(∀i,i<zs.length→w.cell? (x.add i)=some (.int k (zs.getD i 0)))∧∀n∈zs,(Lit.int k n).wf=true) :
 Row k w a len cap (zs.take len)∧∀n∈zs.take len,(Lit.int k n).wf=true:=by
 rcases h with⟨rfl,rfl,rfl,rfl⟩|⟨x,rfl,hl,hm,hz,hc,hw⟩
 ·exact⟨⟨rfl,Nat.le_refl _,by unfold maxLen;omega,fun _=>rfl,.inl rfl⟩,fun n hn=>by simp at hn⟩
 ·refine⟨⟨by simp;omega,hl,hm,(fun h=>by cases h),?_⟩,fun n hn=>hw n (List.mem_of_mem_take hn)⟩
  by_cases h0:len=0
  ·exact .inl h0
  ·obtain⟨b,off,spot⟩:=x
   have h1:=hc 0 (by omega);have hspot:spot=none:=by simpa[Addr.add] using World.cell?_spot h1
   subst hspot;refine .inr ⟨b,off,rfl,?_,fun i hi=>?_⟩
   ·simp only[Addr.add,World.cell?] at h1
    by_cases hb:b<w.heap.size
    ·exact hb
    ·rw[Array.getElem?_eq_none (by simp;omega)] at h1
     simp at h1
   ·have:=hc i (by omega)
    have e:(⟨b,off,none⟩:Addr).add i=⟨b,off+i,none⟩:=by simp[Addr.add]
    rw[e] at this;rw[this,List.getElem?_take_of_lt hi,List.getD_eq_getElem?_getD]
theorem Row.below {k:IntKind} {w w':World} {a:Option Addr} {len cap:Nat} {l:List Int} {B:Nat} (hB:w.heap.size≤B) (hb:Below B w w') (h:Row k w a len cap l):Row k w' a len cap l:=by
 obtain⟨h1,h2,h3,hn,h4⟩:=h;refine⟨h1,h2,h3,hn,?_⟩
 rcases h4 with h4|⟨b,off,h5,h6,h7⟩
 ·exact .inl h4
 ·exact .inr ⟨b,off,h5,by have:=hb.size;omega,fun i hi=>(hb.cell (p:=⟨b,off+i,none⟩) (by simp;omega)).trans (h7 i hi)⟩
theorem Row.take {k:IntKind} {w:World} {a:Option Addr} {len cap:Nat} {l:List Int} (j:Nat) (hj:j≤len) (h:Row k w a len cap l):Row k w a j cap (l.take j):=by
 obtain⟨h1,h2,h3,hn,h4⟩:=h;refine⟨by simp;omega,by omega,h3,hn,?_⟩
 rcases h4 with h4|⟨b,off,h5,h6,h7⟩
 ·exact .inl (by omega)
 ·exact .inr ⟨b,off,h5,h6,fun i hi=>by rw[h7 i (by omega)];simp[hi]⟩
theorem slice_from {P:Program} {T:TypeId} (hT:P.underlying T=some (.slice (P.elem T))) {z:Nat} (hz:∀w,(sizeOf (P.elem T)).run P w=.ok z w) (a:Option Addr) (len cap j:Nat) (hj:j≤len) :
 ∃a2,a2=(if cap=j then a else a.map (·.add (j*z)))∧∀(k:IntKind) w,(Instr.slice T (.slice a len cap) (some (.int k j)) none none).run P w=.ok (.slice a2 (len-j) (cap-j)) w:=by
 refine⟨_,rfl,fun k w=>?_⟩;rw[run_slice_l w T a len cap hT k j (by omega) (by omega),hz]
 rfl
theorem Row.drop {k:IntKind} {w:World} {a:Option Addr} {len cap:Nat} {l:List Int} (j:Nat) (hj:j≤len) (h:Row k w a len cap l) :
 Row k w (if cap=j then a else a.map (·.add (j*1))) (len-j) (cap-j) (l.drop j):=by
 obtain⟨h1,h2,h3,hn,h4⟩:=h;refine⟨by simp;omega,by omega,by omega,(fun h=>by
  have:cap=0:=by
   by_cases e:cap=j
   ·rw[if_pos e] at h;exact hn h
   ·rw[if_neg e] at h;exact hn (by simpa using h)
  omega),?_⟩
 rcases h4 with h4|⟨b,off,rfl,h6,h7⟩
 ·exact .inl (by omega)
 ·by_cases e:cap=j
  ·exact .inl (by omega)
  ·exact .inr ⟨b,off+j,by simp[e,Addr.add],h6,fun i hi=>by rw[Nat.add_assoc,h7 (j+i) (by omega)];simp⟩
theorem Row.made (k:IntKind) (W:World) (t:TypeId) (l:List Int) {b:Nat} (hb:W.heap.size=b) (h:l.length≤maxLen) :
 Row k (W.alloc (.cells (l.map (Value.int k)).toArray t)) (some ⟨b,0,none⟩) l.length l.length l:=by
 subst hb;refine⟨rfl,Nat.le_refl _,h,(fun h=>by cases h),.inr ⟨_,_,rfl,by simp,fun i hi=>?_⟩⟩;have:=World.alloc_heap_new W (.cells (l.map (Value.int k)).toArray t);simp only[World.cell?,this];simp[hi]
theorem Row.of_own {k:IntKind} {w:World} {base:Nat} {e:TypeId} {v:Value} {n:Nat} {l:List Int} (h:w.ownsRow base e 1 v n (l.map (Value.int k))) :
 ∃a cap,v=.slice a n cap∧Row k w a n cap l:=by
 obtain⟨h1,h2⟩:=h;simp only[List.length_map,Nat.mul_one] at h1
 rcases h2 with⟨rfl,rfl⟩|⟨g,cap,cur,rfl,hb,hg,hn,hm,hc,ht⟩
 ·exact⟨none,0,rfl,h1,Nat.le_refl _,by unfold maxLen;omega,fun _=>rfl,.inl rfl⟩
 ·refine⟨_,cap,rfl,h1,hn,hm,(fun h=>by cases h),.inr ⟨g,0,rfl,(Array.getElem?_eq_some_iff.1 hg).1,fun i hi=>?_⟩⟩
  simp only[World.cell?,hg,Nat.zero_add];have e:(cur.toList.take (n*1))[i]? = cur.toList[i]? := List.getElem?_take_of_lt (by omega);rw[ht] at e;rw[←Array.getElem?_toList,←e];simp[show i<l.length by omega]
theorem own_made (k:IntKind) (W:World) (t:TypeId) (l:List Int) {b:Nat} (hb:W.heap.size=b) {base:Nat} (hbase:base≤b) (h:l.length≤maxLen) :
 (W.alloc (.cells (l.map (Value.int k)).toArray t)).ownsRow base t 1 (.slice (some ⟨b,0,none⟩) l.length l.length) l.length (l.map (Value.int k)):=by
 subst hb;exact⟨by simp,.inr ⟨_,_,_,rfl,hbase,World.alloc_heap_new W _,Nat.le_refl _,h,by simp,List.take_of_length_le (by simp)⟩⟩
theorem own_ge {w:World} {base:Nat} {e:TypeId} {size:Nat} {v:Value} {n:Nat} {xs:List Value} (h:w.ownsRow base e size v n xs):∀k,v.ownBlock=some k→base≤k:=by
 intro k hk
 rcases h.2 with⟨rfl,rfl⟩|⟨g,cap,cur,rfl,hb,_⟩
 ·cases hk
 ·cases hk;exact hb
theorem wpList_append_row {P:Program} {w:World} {ops:Array Oper} {rest:List Oper} {o:Oper} {act:Act} {Q:Exit→Act→World→Prop} (hgd:o.guard=none) (s x:Operand) (t:TypeId)
 (ho:o.op=.call { callee:=.builtin .append,args := #[s,x],argTypes := #[t,t] })
 (base:Nat) (e:TypeId) (i:TypeInfo) (z:Value) (bytes:Nat) (ht:P.underlying t=some (.slice e)) (hi:P.info? e=some i) (hz:i.zero=some z)
 (hsize:i.size=1) (hby:i.bytes=bytes) (hzs:z.cells.size=1)
 (v:Value) (n:Nat) (xs:List Value) (hs:act.eval s=v) (hown:w.ownsRow base e 1 v n xs)
 (k:IntKind) (a:Option Addr) (m c:Nat) (l:List Int) (hx:act.eval x=.slice a m c) (hrow:Row k w a m c l)
 (h63:n+m≤maxLen) (hbytes:(n+m)*bytes≤140737488355328) (hbase:base≤w.heap.size)
 (h:∀v' w',w'.ownsRow base e 1 v' (n+m) (xs++l.map (Value.int k))→w.grownBy w' v.ownBlock→wpList P ops Q rest (act.put o.dst v') w'):wpList P ops Q (o::rest) act w:=by
 obtain⟨h1,h2,h3,hn,h4⟩:=hrow;cases a with
 | none=>
  have hc:=hn rfl;have hm:m=0:=by omega
  subst hc hm;obtain rfl:l=[]:=List.eq_nil_of_length_eq_zero h1;exact wpList_append_own_none hgd s x t ho base e i 1 ht hi v n xs hs hown hx (h v w (by simpa using hown) ⟨rfl,rfl,rfl,Nat.le_refl _,fun _ _ _=>rfl⟩)
 | some ad=>
  refine wpList_append_own w hgd s x t ho base e i z 1 bytes ht hi hz hsize hby hzs (by decide) v n xs hs hown ad m c (l.map (Value.int k)) hx (by simp[h1]) ?_ (fun u hu=>by
   obtain⟨y,_,rfl⟩:=List.mem_map.1 hu;rfl) h63 hbytes hbase fun v' w' h5 h6 _=>h v' w' h5 h6
  intro j u hj;simp only[List.getElem?_map,Option.map_eq_some_iff] at hj;obtain⟨y,hy,rfl⟩:=hj;have hjl:=(List.getElem?_eq_some_iff.1 hy).1
  rcases h4 with h4|⟨b,off,h5,h6,h7⟩
  ·omega
  ·cases h5
   have e:(⟨b,off,none⟩:Addr).add j=⟨b,off+j,none⟩:=by
    unfold Addr.add;split<;>simp_all
   rw[e,h7 j (by omega),hy];rfl
theorem Row.drewN {k:IntKind} {w:World} {a:Option Addr} {len cap:Nat} {l:List Int} (h:Row k w a len cap l) (n:Nat):Row k (w.drewN n) a len cap l:=h
theorem quiet_same {P:Program} {f:FuncId} {args:Array Value} {w:World} {n:Nat} {v:Value}
 (h:Calls P f args (w.drewN n) fun e w'=>e=.returned v∧w.drewN n=w'):Calls P f args (w.drewN n) fun e w''=>e=.returned v∧∃m,w''=w.drewN m:=
 h.mono fun _ _ ⟨he,hm⟩=>⟨he,n,hm.symm⟩
theorem below_drewN {B:Nat} {a w:World} (h:Below B a w) (n:Nat):Below B a (w.drewN n):=h.trans ⟨rfl,rfl,rfl,Nat.le_refl _,fun _ _=>rfl⟩
theorem below_then {w a b:World} (h:Below w.heap.size w a) (k:Below a.heap.size a b):Below w.heap.size w b:=h.trans (k.mono h.size)
theorem below_take {w a b:World} {t:Nat} (h:Below w.heap.size w a) (ht:w.heap.size≤t) (k:a.grownBy b (some t)):Below w.heap.size w b:=h.grown k h.size (fun j e=>by cases e;exact ht)
theorem ret_int {k:IntKind} {a b:Int} (h:a=b):Ending.returned (.int k a)=.returned (.int k b):=by rw[h]
theorem ret_bool {a b:Bool} (h:a=b):Ending.returned (.bool a)=.returned (.bool b):=by rw[h]
theorem Hd {p:Prop} (h:p):Hid p:=h
structure Mk (n:Nat):Prop where
theorem Mk.i (n:Nat):Mk n:=⟨⟩
theorem Mk.go {p:Prop} (n:Nat) (_h:Mk n) (k:p):p:=k
structure Kp (q:Prop):Prop where
 out:q
structure Run (l:List Nat) (p:Prop):Prop where
 out:p
theorem Run.done {p:Prop} (h:p):Run [] p:=⟨h⟩
theorem Run.step {P:Program} {md:Region.Mode} {ops:Array Oper} {S:World→Prop} {Q:Exit→Act→World→Prop} {i:Nat} {l:List Nat} {oi:Oper} {v:Value} {fuel:Nat} {listed:Array Bool} {a:Act} {w:World} (hi:ops[i]? = some oi)
 (hs:Region.noSelect ops=true) (hf:Region.free md ops listed i=true) (hr:(Region.ready md ops listed).contains i=true)
 (hQ:∀c a w,Q (.panic c) (a.put oi.dst v) w→Q (.panic c) a w) (hy:YieldsIf P ops S oi v a) (hS:S w)
 (h:Run l (wpAnyH P md ops Q S fuel (listed.setIfInBounds i true) (a.put oi.dst v) w)):Run (i::l) (wpAnyH P md ops Q S (fuel+1) listed a w):=
 ⟨wpAnyH_take hi hs hf hr hQ hy hS h.out⟩
theorem tku {p q:Prop} (k:q) (h:q→p:=by intro k;(try simp only[Act.put,List.setIfInBounds_toArray,List.set_cons_zero,List.set_cons_succ]);exact k):p:=h k
theorem tks {p q:Prop} (l:List Nat) (k:q) (h:Kp q→Run l p:=by
 intro k
 repeat
  refine Run.step (v:=?_) (by first|(simp only[List.getElem?_toArray,List.getElem?_cons_succ,List.getElem?_cons_zero];rfl)|rfl) (by kernel_rfl) (by kernel_rfl) (by kernel_rfl) (by exact fun _ _ _ h=>h) (Or.inl ⟨by rfl,?_⟩) (by assumption) ?_
  rotate_left
  ·(intro W hW;(try dsimp only at hW);go_simp<;>(with_reducible rfl))
  try simp only[Act.put,List.setIfInBounds_toArray,List.set_cons_zero,List.set_cons_succ]
 exact Run.done k.out):p:=(h ⟨k⟩).out
theorem tkn {p q:Prop} (l:List Nat) (k:q) (h:Kp q→Run l p:=by
 intro k
 repeat
  refine Run.step (by first|(simp only[List.getElem?_toArray,List.getElem?_cons_succ,List.getElem?_cons_zero];rfl)|rfl) (by kernel_rfl) (by kernel_rfl) (by kernel_rfl) (by exact fun _ _ _ h=>h) (Or.inr ⟨by rfl,rfl⟩) (by assumption) ?_
  try simp only[Act.put,List.setIfInBounds_toArray,List.set_cons_zero,List.set_cons_succ]
 exact Run.done k.out):p:=(h ⟨k⟩).out
theorem rdy {P:Program} {md:Region.Mode} {ops:Array Oper} {S:World→Prop} {Q:Exit→Act→World→Prop} {fuel:Nat} {listed:Array Bool} {a:Act} {w:World} (i:Nat) {o:Oper}
 (h:∀K':Act→World→Prop,Shut (∀a w,S w→(S w→wpAnyH P md ops Q S fuel (listed.setIfInBounds i true) a w)→K' a w)→if Region.wanted o (yielded ops a.tmps)=true then Oper.wp P o a w K' Q else K' (a.put o.dst undef) w)
 (ho:ops[i]? = some o:=by first|(simp only[List.getElem?_toArray,List.getElem?_cons_succ,List.getElem?_cons_zero];rfl)|rfl)
 (hr:Region.ready md ops listed=[i]:=by kernel_rfl):wpAnyH P md ops Q S (fuel+1) listed a w:=wpAnyH_ready hr (by simp) (AllReadyH.cons ho h AllReadyH.nil)
theorem rdy2 {P:Program} {md:Region.Mode} {ops:Array Oper} {S:World→Prop} {Q:Exit→Act→World→Prop} {fuel:Nat} {listed:Array Bool} {a:Act} {w:World} (i j:Nat) {o o2:Oper}
 (h:∀K':Act→World→Prop,Shut (∀a w,S w→(S w→wpAnyH P md ops Q S fuel (listed.setIfInBounds i true) a w)→K' a w)→if Region.wanted o (yielded ops a.tmps)=true then Oper.wp P o a w K' Q else K' (a.put o.dst undef) w)
 (h2:∀K':Act→World→Prop,Shut (∀a w,S w→(S w→wpAnyH P md ops Q S fuel (listed.setIfInBounds j true) a w)→K' a w)→if Region.wanted o2 (yielded ops a.tmps)=true then Oper.wp P o2 a w K' Q else K' (a.put o2.dst undef) w)
 (ho:ops[i]? = some o:=by first|(simp only[List.getElem?_toArray,List.getElem?_cons_succ,List.getElem?_cons_zero];rfl)|rfl) (ho2:ops[j]? = some o2:=by first|(simp only[List.getElem?_toArray,List.getElem?_cons_succ,List.getElem?_cons_zero];rfl)|rfl)
 (hr:Region.ready md ops listed=[i,j]:=by kernel_rfl):wpAnyH P md ops Q S (fuel+1) listed a w:=wpAnyH_ready hr (by simp) (AllReadyH.cons ho h (AllReadyH.cons ho2 h2 AllReadyH.nil))
theorem bkw {K:Act→World→Prop} {a:Act} {w:World} {S:World→Prop} {W:Act→World→Prop} {q:Prop} (hK:Shut (∀a w,S w→(S w→W a w)→K a w)) (hS:S w) (k:S w→q) (h:q→W a w:=by intro k;(try simp only[Act.put,List.setIfInBounds_toArray,List.set_cons_zero,List.set_cons_succ]);exact k):K a w:=hK.out _ _ hS (fun x=>h (k x))
theorem bkA {K:Act→World→Prop} {a:Act} {w:World} {S:World→Prop} {W:Act→World→Prop} {q:Prop} (hK:Shut (∀a w,S w→(S w→W a w)→K a w)) (k:S w→q) (h:q→W a w:=by intro k;(try simp only[Act.put,List.setIfInBounds_toArray,List.set_cons_zero,List.set_cons_succ]);exact k) (hS:S w:=by(repeat (with_reducible first|assumption|exact AgreeF.refl _|apply AgreeF.al|apply AgreeF.dr|apply AgreeF.st))):K a w:=hK.out _ _ hS (fun x=>h (k x))
theorem bkR {K:Act→World→Prop} {a:Act} {w:World} {S:World→Prop} {W:Act→World→Prop} {q:Prop} (hK:Shut (∀a w,S w→(S w→W a w)→K a w)) (k:S w→q) (h:q→W a w:=by intro k;(try simp only[Act.put,List.setIfInBounds_toArray,List.set_cons_zero,List.set_cons_succ]);exact k) (hS:S w:=by(repeat (with_reducible first|assumption|exact agr _|apply agal|apply agdr|apply agst))):K a w:=hK.out _ _ hS (fun x=>h (k x))
theorem tka {P:Program} {md:Region.Mode} {ops:Array Oper} {S:World→Prop} {Q:Exit→Act→World→Prop} {fuel:Nat} {listed:Array Bool} {a:Act} {w:World} {q:Prop} (i:Nat) (v:Value) {oi:Oper} (k:q) (hi:ops[i]? = some oi:=by first|(simp only[List.getElem?_toArray,List.getElem?_cons_succ,List.getElem?_cons_zero];rfl)|rfl)
 (hy:YieldsIf P ops S oi v a:=by as_aux_lemma=>exact Or.inl ⟨by rfl,by(intro W hW;(try dsimp only at hW);(try simp only[cond_true,cond_false]);go_simp<;>(with_reducible rfl))⟩)
 (h:q→wpAnyH P md ops Q S fuel (listed.setIfInBounds i true) (a.put oi.dst v) w:=by intro k;(try simp only[Act.put,List.setIfInBounds_toArray]);(try dsimp only[List.set_cons_zero,List.set_cons_succ]);exact k)
 (hs:Region.noSelect ops=true:=by as_aux_lemma=>kernel_rfl) (hf:Region.free md ops listed i=true:=by as_aux_lemma=>kernel_rfl) (hr:(Region.ready md ops listed).contains i=true:=by as_aux_lemma=>kernel_rfl)
 (hQ:∀c a w,Q (.panic c) (a.put oi.dst v) w→Q (.panic c) a w:=by exact fun _ _ _ h=>h) (hS:S w:=by assumption):wpAnyH P md ops Q S (fuel+1) listed a w:=
 wpAnyH_take hi hs hf hr hQ hy hS (h k)
theorem tkb {P:Program} {md:Region.Mode} {ops:Array Oper} {S:World→Prop} {Q:Exit→Act→World→Prop} {fuel:Nat} {listed:Array Bool} {a:Act} {w:World} {q:Prop} (A:Bool) (i:Nat) (v:Value) {oi:Oper} (k:q) (hi:ops[i]? = some oi:=by first|(simp only[List.getElem?_toArray,List.getElem?_cons_succ,List.getElem?_cons_zero];rfl)|rfl)
 (h0:A=true→YieldsIf P ops S oi v a:=by as_aux_lemma=>(intro h;subst h;exact Or.inr ⟨by rfl,rfl⟩))
 (h1:A=false→YieldsIf P ops S oi v a:=by as_aux_lemma=>(intro h;subst h;exact Or.inl ⟨by rfl,by(intro W hW;(try dsimp only at hW);(try simp only[cond_true,cond_false]);go_simp<;>(with_reducible rfl))⟩))
 (h:q→wpAnyH P md ops Q S fuel (listed.setIfInBounds i true) (a.put oi.dst v) w:=by intro k;(try simp only[Act.put,List.setIfInBounds_toArray]);(try dsimp only[List.set_cons_zero,List.set_cons_succ]);exact k)
 (hs:Region.noSelect ops=true:=by as_aux_lemma=>kernel_rfl) (hf:Region.free md ops listed i=true:=by as_aux_lemma=>kernel_rfl) (hr:(Region.ready md ops listed).contains i=true:=by as_aux_lemma=>kernel_rfl)
 (hQ:∀c a w,Q (.panic c) (a.put oi.dst v) w→Q (.panic c) a w:=by exact fun _ _ _ h=>h) (hS:S w:=by assumption):wpAnyH P md ops Q S (fuel+1) listed a w:=
 wpAnyH_take hi hs hf hr hQ (by cases hA:A;exact h1 hA;exact h0 hA) hS (h k)
theorem tkc {P:Program} {md:Region.Mode} {ops:Array Oper} {S:World→Prop} {Q:Exit→Act→World→Prop} {fuel:Nat} {listed:Array Bool} {a:Act} {w:World} {q:Prop} (A B:Bool) (i:Nat) (v:Value) {oi:Oper} (k:q) (hi:ops[i]? = some oi:=by first|(simp only[List.getElem?_toArray,List.getElem?_cons_succ,List.getElem?_cons_zero];rfl)|rfl)
 (h0:A=true→YieldsIf P ops S oi v a:=by as_aux_lemma=>(intro h;subst h;exact Or.inr ⟨by rfl,rfl⟩))
 (h1:A=false→B=true→YieldsIf P ops S oi v a:=by as_aux_lemma=>(intro h h2;subst h;subst h2;exact Or.inl ⟨by rfl,by(intro W hW;(try dsimp only at hW);(try simp only[cond_true,cond_false]);go_simp<;>(with_reducible rfl))⟩))
 (h2:A=false→B=false→YieldsIf P ops S oi v a:=by as_aux_lemma=>(intro h h2;subst h;subst h2;exact Or.inr ⟨by rfl,rfl⟩))
 (h:q→wpAnyH P md ops Q S fuel (listed.setIfInBounds i true) (a.put oi.dst v) w:=by intro k;(try simp only[Act.put,List.setIfInBounds_toArray]);(try dsimp only[List.set_cons_zero,List.set_cons_succ]);exact k)
 (hs:Region.noSelect ops=true:=by as_aux_lemma=>kernel_rfl) (hf:Region.free md ops listed i=true:=by as_aux_lemma=>kernel_rfl) (hr:(Region.ready md ops listed).contains i=true:=by as_aux_lemma=>kernel_rfl)
 (hQ:∀c a w,Q (.panic c) (a.put oi.dst v) w→Q (.panic c) a w:=by exact fun _ _ _ h=>h) (hS:S w:=by assumption):wpAnyH P md ops Q S (fuel+1) listed a w:=
 wpAnyH_take hi hs hf hr hQ (by cases hA:A;cases hB:B;exact h2 hA hB;exact h1 hA hB;exact h0 hA) hS (h k)
end Go.Proofs.YtpghlmcoajaiiaaGreatDoor
