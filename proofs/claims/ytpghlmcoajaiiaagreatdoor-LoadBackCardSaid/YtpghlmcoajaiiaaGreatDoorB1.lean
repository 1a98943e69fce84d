/- Texts that other texts of this claim lean on, one behind the other. -/
import Derived.Test.YtpghlmcoajaiiaaGreatDoorRows
import Derived.WalkKit
import Derived.WalkSpells
import Derived.WalkLawsBesides
import Derived.Lib.Hide
import Derived.RangeFuncRecord
import Derived.Deep.QuietTactic
import Derived.BigQuiet
import Derived.Laws.AppendOwn
import Derived.Laws.AppendOwnNone
import Derived.OrdersHeld
import Derived.Deep.RegionHeld3
import Derived.RegionTactic
import Derived.Deep.RegionLaw
import Derived.Deep.RegionWith
import Derived.Laws.CopyOwn
import Derived.Laws.BitsAllLaws
import Derived.Outline
import Derived.Deep.DeepCutAuto
import Derived.Defers
import Derived.Recover
import Derived.Lib.ConvBytes
import Derived.IntWalk
import Derived.Laws.EntriesVeiled
import Derived.Laws.StructEq
import Derived.Deep.CutBlock
import Derived.Laws.BytesArg
import Derived.Laws.MakeOwn
import Derived.Lib.AppendStr
import Derived.Lib.BufferRead
set_option maxHeartbeats 20000000
set_option maxRecDepth 100000
namespace Go.Proofs.YtpghlmcoajaiiaaGreatDoor
open Go.RowKit
def Row (k:IntKind) (w:World) (a:Option Addr) (len cap:Nat) (l:List Int):Prop:=
 l.length=len∧len≤cap∧cap≤maxLen∧(a=none→cap=0)∧(len=0∨∃b off,a=some ⟨b,off,none⟩∧b<w.heap.size ∧
  ∀i,i<len→w.cell? ⟨b,off+i,none⟩=some (.int k (l[i]?.getD 0)))
theorem Row.below {k:IntKind} {w w':World} {a:Option Addr} {len cap:Nat} {l:List Int} {B:Nat} (hB:w.heap.size≤B) (hb:Below B w w') (h:Row k w a len cap l):Row k w' a len cap l:=by
 obtain⟨h1,h2,h3,hn,h4⟩:=h;refine⟨h1,h2,h3,hn,?_⟩
 rcases h4 with h4|⟨b,off,h5,h6,h7⟩
 ·exact .inl h4
 ·exact .inr ⟨b,off,h5,by have:=hb.size;omega,fun i hi=>(hb.cell (p:=⟨b,off+i,none⟩) (by simp;omega)).trans (h7 i hi)⟩
theorem Row.take {k:IntKind} {w:World} {a:Option Addr} {len cap:Nat} {l:List Int} (j:Nat) (hj:j≤len) (h:Row k w a len cap l):Row k w a j cap (l.take j):=by
 obtain⟨h1,h2,h3,hn,h4⟩:=h;refine⟨by simp;omega,by omega,h3,hn,?_⟩
 rcases h4 with h4|⟨b,off,h5,h6,h7⟩
 ·exact .inl (by omega)
 ·exact .inr ⟨b,off,h5,h6,fun i hi=>by rw[h7 i (by omega)];simp[hi]⟩
theorem slice_from {P:Program} {T:TypeId} (hT:P.underlying T=some (.slice (P.elem T))) {z:Nat} (hz:∀w,(sizeOf (P.elem T)).run P w=.ok z w) (a:Option Addr) (len cap j:Nat) (hj:j≤len) :
 ∃a2,a2=(if cap=j then a else a.map (·.add (j*z)))∧∀(k:IntKind) w,(Instr.slice T (.slice a len cap) (some (.int k j)) none none).run P w=.ok (.slice a2 (len-j) (cap-j)) w:=by
 refine⟨_,rfl,fun k w=>?_⟩;rw[run_slice_l w T a len cap hT k j (by omega) (by omega),hz]
 rfl
theorem Row.drop {k:IntKind} {w:World} {a:Option Addr} {len cap:Nat} {l:List Int} (j:Nat) (hj:j≤len) (h:Row k w a len cap l) :
 Row k w (if cap=j then a else a.map (·.add (j*1))) (len-j) (cap-j) (l.drop j):=by
 obtain⟨h1,h2,h3,hn,h4⟩:=h;refine⟨by simp;omega,by omega,by omega,(fun h=>by
  have:cap=0:=by
   by_cases e:cap=j
   ·rw[if_pos e] at h;exact hn h
   ·rw[if_neg e] at h;exact hn (by simpa using h)
  omega),?_⟩
 rcases h4 with h4|⟨b,off,rfl,h6,h7⟩
 ·exact .inl (by omega)
 ·by_cases e:cap=j
  ·exact .inl (by omega)
  ·exact .inr ⟨b,off+j,by simp[e,Addr.add],h6,fun i hi=>by rw[Nat.add_assoc,h7 (j+i) (by omega)];simp⟩
theorem Row.made (k:IntKind) (W:World) (t:TypeId) (l:List Int) {b:Nat} (hb:W.heap.size=b) (h:l.length≤maxLen) :
 Row k (W.alloc (.cells (l.map (Value.int k)).toArray t)) (some ⟨b,0,none⟩) l.length l.length l:=by
 subst hb;refine⟨rfl,Nat.le_refl _,h,(fun h=>by cases h),.inr ⟨_,_,rfl,by simp,fun i hi=>?_⟩⟩;have:=World.alloc_heap_new W (.cells (l.map (Value.int k)).toArray t);simp only[World.cell?,this];simp[hi]
theorem Row.of_own {k:IntKind} {w:World} {base:Nat} {e:TypeId} {v:Value} {n:Nat} {l:List Int} (h:w.ownsRow base e 1 v n (l.map (Value.int k))) :
 ∃a cap,v=.slice a n cap∧Row k w a n cap l:=by
 obtain⟨h1,h2⟩:=h;simp only[List.length_map,Nat.mul_one] at h1
 rcases h2 with⟨rfl,rfl⟩|⟨g,cap,cur,rfl,hb,hg,hn,hm,hc,ht⟩
 ·exact⟨none,0,rfl,h1,Nat.le_refl _,by unfold maxLen;omega,fun _=>rfl,.inl rfl⟩
 ·refine⟨_,cap,rfl,h1,hn,hm,(fun h=>by cases h),.inr ⟨g,0,rfl,(Array.getElem?_eq_some_iff.1 hg).1,fun i hi=>?_⟩⟩
  simp only[World.cell?,hg,Nat.zero_add];have e:(cur.toList.take (n*1))[i]? = cur.toList[i]? := List.getElem?_take_of_lt (by omega);rw[ht] at e;rw[←Array.getElem?_toList,←e];simp[show i<l.length by omega]
theorem own_made (k:IntKind) (W:World) (t:TypeId) (l:List Int) {b:Nat} (hb:W.heap.size=b) {base:Nat} (hbase:base≤b) (h:l.length≤maxLen) :
 (W.alloc (.cells (l.map (Value.int k)).toArray t)).ownsRow base t 1 (.slice (some ⟨b,0,none⟩) l.length l.length) l.length (l.map (Value.int k)):=by
 subst hb;exact⟨by simp,.inr ⟨_,_,_,rfl,hbase,World.alloc_heap_new W _,Nat.le_refl _,h,by simp,List.take_of_length_le (by simp)⟩⟩
theorem own_ge {w:World} {base:Nat} {e:TypeId} {size:Nat} {v:Value} {n:Nat} {xs:List Value} (h:w.ownsRow base e size v n xs):∀k,v.ownBlock=some k→base≤k:=by
 intro k hk
 rcases h.2 with⟨rfl,rfl⟩|⟨g,cap,cur,rfl,hb,_⟩
 ·cases hk
 ·cases hk;exact hb
theorem wpList_append_row {P:Program} {w:World} {ops:Array Oper} {rest:List Oper} {o:Oper} {act:Act} {Q:Exit→Act→World→Prop} (hgd:o.guard=none) (s x:Operand) (t:TypeId)
 (ho:o.op=.call { callee:=.builtin .append,args := #[s,x],argTypes := #[t,t] })
 (base:Nat) (e:TypeId) (i:TypeInfo) (z:Value) (bytes:Nat) (ht:P.underlying t=some (.slice e)) (hi:P.info? e=some i) (hz:i.zero=some z)
 (hsize:i.size=1) (hby:i.bytes=bytes) (hzs:z.cells.size=1)
 (v:Value) (n:Nat) (xs:List Value) (hs:act.eval s=v) (hown:w.ownsRow base e 1 v n xs)
 (k:IntKind) (a:Option Addr) (m c:Nat) (l:List Int) (hx:act.eval x=.slice a m c) (hrow:Row k w a m c l)
 (h63:n+m≤maxLen) (hbytes:(n+m)*bytes≤140737488355328) (hbase:base≤w.heap.size)
 (h:∀v' w',w'.ownsRow base e 1 v' (n+m) (xs++l.map (Value.int k))→w.grownBy w' v.ownBlock→wpList P ops Q rest (act.put o.dst v') w'):wpList P ops Q (o::rest) act w:=by
 obtain⟨h1,h2,h3,hn,h4⟩:=hrow;cases a with
 | none=>
  have hc:=hn rfl;have hm:m=0:=by omega
  subst hc hm;obtain rfl:l=[]:=List.eq_nil_of_length_eq_zero h1;exact wpList_append_own_none hgd s x t ho base e i 1 ht hi v n xs hs hown hx (h v w (by simpa using hown) ⟨rfl,rfl,rfl,Nat.le_refl _,fun _ _ _=>rfl⟩)
 | some ad=>
  refine wpList_append_own w hgd s x t ho base e i z 1 bytes ht hi hz hsize hby hzs (by decide) v n xs hs hown ad m c (l.map (Value.int k)) hx (by simp[h1]) ?_ (fun u hu=>by
   obtain⟨y,_,rfl⟩:=List.mem_map.1 hu;rfl) h63 hbytes hbase fun v' w' h5 h6 _=>h v' w' h5 h6
  intro j u hj;simp only[List.getElem?_map,Option.map_eq_some_iff] at hj;obtain⟨y,hy,rfl⟩:=hj;have hjl:=(List.getElem?_eq_some_iff.1 hy).1
  rcases h4 with h4|⟨b,off,h5,h6,h7⟩
  ·omega
  ·cases h5
   have e:(⟨b,off,none⟩:Addr).add j=⟨b,off+j,none⟩:=by
    unfold Addr.add;split<;>simp_all
   rw[e,h7 j (by omega),hy];rfl
theorem Row.drewN {k:IntKind} {w:World} {a:Option Addr} {len cap:Nat} {l:List Int} (h:Row k w a len cap l) (n:Nat):Row k (w.drewN n) a len cap l:=h
theorem quiet_same {P:Program} {f:FuncId} {args:Array Value} {w:World} {n:Nat} {v:Value}
 (h:Calls P f args (w.drewN n) fun e w'=>e=.returned v∧w.drewN n=w'):Calls P f args (w.drewN n) fun e w''=>e=.returned v∧∃m,w''=w.drewN m:=
 h.mono fun _ _ ⟨he,hm⟩=>⟨he,n,hm.symm⟩
theorem below_drewN {B:Nat} {a w:World} (h:Below B a w) (n:Nat):Below B a (w.drewN n):=h.trans ⟨rfl,rfl,rfl,Nat.le_refl _,fun _ _=>rfl⟩
theorem below_then {w a b:World} (h:Below w.heap.size w a) (k:Below a.heap.size a b):Below w.heap.size w b:=h.trans (k.mono h.size)
theorem below_take {w a b:World} {t:Nat} (h:Below w.heap.size w a) (ht:w.heap.size≤t) (k:a.grownBy b (some t)):Below w.heap.size w b:=h.grown k h.size (fun j e=>by cases e;exact ht)
theorem ret_int {k:IntKind} {a b:Int} (h:a=b):Ending.returned (.int k a)=.returned (.int k b):=by rw[h]
theorem ret_bool {a b:Bool} (h:a=b):Ending.returned (.bool a)=.returned (.bool b):=by rw[h]
theorem Hd {p:Prop} (h:p):Hid p:=h
structure Mk (n:Nat):Prop where
theorem Mk.i (n:Nat):Mk n:=⟨⟩
theorem Mk.go {p:Prop} (n:Nat) (_h:Mk n) (k:p):p:=k
structure Kp (q:Prop):Prop where
 out:q
structure Run (l:List Nat) (p:Prop):Prop where
 out:p
theorem Run.done {p:Prop} (h:p):Run [] p:=⟨h⟩
theorem Run.step {P:Program} {md:Region.Mode} {ops:Array Oper} {S:World→Prop} {Q:Exit→Act→World→Prop} {i:Nat} {l:List Nat} {oi:Oper} {v:Value} {fuel:Nat} {listed:Array Bool} {a:Act} {w:World} (hi:ops[i]? = some oi)
 (hs:Region.noSelect ops=true) (hf:Region.free md ops listed i=true) (hr:(Region.ready md ops listed).contains i=true)
 (hQ:∀c a w,Q (.panic c) (a.put oi.dst v) w→Q (.panic c) a w) (hy:YieldsIf P ops S oi v a) (hS:S w)
 (h:Run l (wpAnyH P md ops Q S fuel (listed.setIfInBounds i true) (a.put oi.dst v) w)):Run (i::l) (wpAnyH P md ops Q S (fuel+1) listed a w):=
 ⟨wpAnyH_take hi hs hf hr hQ hy hS h.out⟩
theorem tku {p q:Prop} (k:q) (h:q→p:=by intro k;(try simp only[Act.put,List.setIfInBounds_toArray,List.set_cons_zero,List.set_cons_succ]);exact k):p:=h k
theorem tks {p q:Prop} (l:List Nat) (k:q) (h:Kp q→Run l p:=by
 intro k
 repeat
  refine Run.step (v:=?_) (by first|(simp only[List.getElem?_toArray,List.getElem?_cons_succ,List.getElem?_cons_zero];rfl)|rfl) (by kernel_rfl) (by kernel_rfl) (by kernel_rfl) (by exact fun _ _ _ h=>h) (Or.inl ⟨by rfl,?_⟩) (by assumption) ?_
  rotate_left
  ·(intro W hW;(try dsimp only at hW);go_simp<;>(with_reducible rfl))
  try simp only[Act.put,List.setIfInBounds_toArray,List.set_cons_zero,List.set_cons_succ]
 exact Run.done k.out):p:=(h ⟨k⟩).out
theorem tkn {p q:Prop} (l:List Nat) (k:q) (h:Kp q→Run l p:=by
 intro k
 repeat
  refine Run.step (by first|(simp only[List.getElem?_toArray,List.getElem?_cons_succ,List.getElem?_cons_zero];rfl)|rfl) (by kernel_rfl) (by kernel_rfl) (by kernel_rfl) (by exact fun _ _ _ h=>h) (Or.inr ⟨by rfl,rfl⟩) (by assumption) ?_
  try simp only[Act.put,List.setIfInBounds_toArray,List.set_cons_zero,List.set_cons_succ]
 exact Run.done k.out):p:=(h ⟨k⟩).out
theorem rdy {P:Program} {md:Region.Mode} {ops:Array Oper} {S:World→Prop} {Q:Exit→Act→World→Prop} {fuel:Nat} {listed:Array Bool} {a:Act} {w:World} (i:Nat) {o:Oper}
 (h:∀K':Act→World→Prop,Shut (∀a w,S w→(S w→wpAnyH P md ops Q S fuel (listed.setIfInBounds i true) a w)→K' a w)→if Region.wanted o (yielded ops a.tmps)=true then Oper.wp P o a w K' Q else K' (a.put o.dst undef) w)
 (ho:ops[i]? = some o:=by first|(simp only[List.getElem?_toArray,List.getElem?_cons_succ,List.getElem?_cons_zero];rfl)|rfl)
 (hr:Region.ready md ops listed=[i]:=by kernel_rfl):wpAnyH P md ops Q S (fuel+1) listed a w:=wpAnyH_ready hr (by simp) (AllReadyH.cons ho h AllReadyH.nil)
theorem rdy2 {P:Program} {md:Region.Mode} {ops:Array Oper} {S:World→Prop} {Q:Exit→Act→World→Prop} {fuel:Nat} {listed:Array Bool} {a:Act} {w:World} (i j:Nat) {o o2:Oper}
 (h:∀K':Act→World→Prop,Shut (∀a w,S w→(S w→wpAnyH P md ops Q S fuel (listed.setIfInBounds i true) a w)→K' a w)→if Region.wanted o (yielded ops a.tmps)=true then Oper.wp P o a w K' Q else K' (a.put o.dst undef) w)
 (h2:∀K':Act→World→Prop,Shut (∀a w,S w→(S w→wpAnyH P md ops Q S fuel (listed.setIfInBounds j true) a w)→K' a w)→if Region.wanted o2 (yielded ops a.tmps)=true then Oper.wp P o2 a w K' Q else K' (a.put o2.dst undef) w)
 (ho:ops[i]? = some o:=by first|(simp only[List.getElem?_toArray,List.getElem?_cons_succ,List.getElem?_cons_zero];rfl)|rfl) (ho2:ops[j]? = some o2:=by first|(simp only[List.getElem?_toArray,List.getElem?_cons_succ,List.getElem?_cons_zero];rfl)|rfl)
 (hr:Region.ready md ops listed=[i,j]:=by kernel_rfl):wpAnyH P md ops Q S (fuel+1) listed a w:=wpAnyH_ready hr (by simp) (AllReadyH.cons ho h (AllReadyH.cons ho2 h2 AllReadyH.nil))
theorem bkw {K:Act→World→Prop} {a:Act} {w:World} {S:World→Prop} {W:Act→World→Prop} {q:Prop} (hK:Shut (∀a w,S w→(S w→W a w)→K a w)) (hS:S w) (k:S w→q) (h:q→W a w:=by intro k;(try simp only[Act.put,List.setIfInBounds_toArray,List.set_cons_zero,List.set_cons_succ]);exact k):K a w:=hK.out _ _ hS (fun x=>h (k x))
theorem bkA {K:Act→World→Prop} {a:Act} {w:World} {S:World→Prop} {W:Act→World→Prop} {q:Prop} (hK:Shut (∀a w,S w→(S w→W a w)→K a w)) (k:S w→q) (h:q→W a w:=by intro k;(try simp only[Act.put,List.setIfInBounds_toArray,List.set_cons_zero,List.set_cons_succ]);exact k) (hS:S w:=by(repeat (with_reducible first|assumption|exact AgreeF.refl _|apply AgreeF.al|apply AgreeF.dr|apply AgreeF.st))):K a w:=hK.out _ _ hS (fun x=>h (k x))
theorem bkR {K:Act→World→Prop} {a:Act} {w:World} {S:World→Prop} {W:Act→World→Prop} {q:Prop} (hK:Shut (∀a w,S w→(S w→W a w)→K a w)) (k:S w→q) (h:q→W a w:=by intro k;(try simp only[Act.put,List.setIfInBounds_toArray,List.set_cons_zero,List.set_cons_succ]);exact k) (hS:S w:=by(repeat (with_reducible first|assumption|exact agr _|apply agal|apply agdr|apply agst))):K a w:=hK.out _ _ hS (fun x=>h (k x))
theorem tka {P:Program} {md:Region.Mode} {ops:Array Oper} {S:World→Prop} {Q:Exit→Act→World→Prop} {fuel:Nat} {listed:Array Bool} {a:Act} {w:World} {q:Prop} (i:Nat) (v:Value) {oi:Oper} (k:q) (hi:ops[i]? = some oi:=by first|(simp only[List.getElem?_toArray,List.getElem?_cons_succ,List.getElem?_cons_zero];rfl)|rfl)
 (hy:YieldsIf P ops S oi v a:=by as_aux_lemma=>exact Or.inl ⟨by rfl,by(intro W hW;(try dsimp only at hW);(try simp only[cond_true,cond_false]);go_simp<;>(with_reducible rfl))⟩)
 (h:q→wpAnyH P md ops Q S fuel (listed.setIfInBounds i true) (a.put oi.dst v) w:=by intro k;(try simp only[Act.put,List.setIfInBounds_toArray]);(try dsimp only[List.set_cons_zero,List.set_cons_succ]);exact k)
 (hs:Region.noSelect ops=true:=by as_aux_lemma=>kernel_rfl) (hf:Region.free md ops listed i=true:=by as_aux_lemma=>kernel_rfl) (hr:(Region.ready md ops listed).contains i=true:=by as_aux_lemma=>kernel_rfl)
 (hQ:∀c a w,Q (.panic c) (a.put oi.dst v) w→Q (.panic c) a w:=by exact fun _ _ _ h=>h) (hS:S w:=by assumption):wpAnyH P md ops Q S (fuel+1) listed a w:=
 wpAnyH_take hi hs hf hr hQ hy hS (h k)
theorem tkb {P:Program} {md:Region.Mode} {ops:Array Oper} {S:World→Prop} {Q:Exit→Act→World→Prop} {fuel:Nat} {listed:Array Bool} {a:Act} {w:World} {q:Prop} (A:Bool) (i:Nat) (v:Value) {oi:Oper} (k:q) (hi:ops[i]? = some oi:=by first|(simp only[List.getElem?_toArray,List.getElem?_cons_succ,List.getElem?_cons_zero];rfl)|rfl)
 (h0:A=true→YieldsIf P ops S oi v a:=by as_aux_lemma=>(intro h;subst h;exact Or.inr ⟨by rfl,rfl⟩))
 (h1:A=false→YieldsIf P ops S oi v a:=by as_aux_lemma=>(intro h;subst h;exact Or.inl ⟨by rfl,by(intro W hW;(try dsimp only at hW);(try simp only[cond_true,cond_false]);go_simp<;>(with_reducible rfl))⟩))
 (h:q→wpAnyH P md ops Q S fuel (listed.setIfInBounds i true) (a.put oi.dst v) w:=by intro k;(try simp only[Act.put,List.setIfInBounds_toArray]);(try dsimp only[List.set_cons_zero,List.set_cons_succ]);exact k)
 (hs:Region.noSelect ops=true:=by as_aux_lemma=>kernel_rfl) (hf:Region.free md ops listed i=true:=by as_aux_lemma=>kernel_rfl) (hr:(Region.ready md ops listed).contains i=true:=by as_aux_lemma=>kernel_rfl)
 (hQ:∀c a w,Q (.panic c) (a.put oi.dst v) w→Q (.panic c) a w:=by exact fun _ _ _ h=>h) (hS:S w:=by assumption):wpAnyH P md ops Q S (fuel+1) listed a w:=
 wpAnyH_take hi hs hf hr hQ (by cases hA:A;exact h1 hA;exact h0 hA) hS (h k)
theorem tkc {P:Program} {md:Region.Mode} {ops:Array Oper} {S:World→Prop} {Q:Exit→Act→World→Prop} {fuel:Nat} {listed:Array Bool} {a:Act} {w:World} {q:Prop} (A B:Bool) (i:Nat) (v:Value) {oi:Oper} (k:q) (hi:ops[i]? = some oi:=by first|(simp only[List.getElem?_toArray,List.getElem?_cons_succ,List.getElem?_cons_zero];rfl)|rfl)
 (h0:A=true→YieldsIf P ops S oi v a:=by as_aux_lemma=>(intro h;subst h;exact Or.inr ⟨by rfl,rfl⟩))
 (h1:A=false→B=true→YieldsIf P ops S oi v a:=by as_aux_lemma=>(intro h h2;subst h;subst h2;exact Or.inl ⟨by rfl,by(intro W hW;(try dsimp only at hW);(try simp only[cond_true,cond_false]);go_simp<;>(with_reducible rfl))⟩))
 (h2:A=false→B=false→YieldsIf P ops S oi v a:=by as_aux_lemma=>(intro h h2;subst h;subst h2;exact Or.inr ⟨by rfl,rfl⟩))
 (h:q→wpAnyH P md ops Q S fuel (listed.setIfInBounds i true) (a.put oi.dst v) w:=by intro k;(try simp only[Act.put,List.setIfInBounds_toArray]);(try dsimp only[List.set_cons_zero,List.set_cons_succ]);exact k)
 (hs:Region.noSelect ops=true:=by as_aux_lemma=>kernel_rfl) (hf:Region.free md ops listed i=true:=by as_aux_lemma=>kernel_rfl) (hr:(Region.ready md ops listed).contains i=true:=by as_aux_lemma=>kernel_rfl)
 (hQ:∀c a w,Q (.panic c) (a.put oi.dst v) w→Q (.panic c) a w:=by exact fun _ _ _ h=>h) (hS:S w:=by assumption):wpAnyH P md ops Q S (fuel+1) listed a w:=
 wpAnyH_take hi hs hf hr hQ (by cases hA:A;cases hB:B;exact h2 hA hB;exact h1 hA hB;exact h0 hA) hS (h k)
open Go.RowKit
section
variable {p:Prop}
theorem q842745 (h:p:=by
 clear n0 n1 n2 n3 n4 s0 s1;obtain⟨i,far,hi',hfar,rfl,rfl,hdk,hb,hx⟩:=hrel;have hx1:=hx.lt 1 rfl;have hx0:=hx.lt 0 rfl;have n0:=hx.cell 1 0 rfl rfl;have n1:=hx.cell 1 1 rfl rfl;have n2:=hx.cell 1 2 rfl rfl;have n3:=hx.cell 1 3 rfl rfl;have n4:=hx.cell 1 4 rfl rfl;have s0:=hx.cell 0 0 rfl rfl;have s1:=hx.cell 0 1 rfl rfl
 by_cases hlt:i<m
 ·obtain⟨bc,oc,kid,kcs,eca,hbc,hy,_,hkid,hcell⟩:=TabR.at HT.out hlt
  obtain⟨c,hc1,hc2⟩:∃c,l[i]? = some c∧c.2=kid:=by
   rw[List.getElem?_map] at hy;cases hli:l[i]? with
   | none=>rw[hli] at hy;cases hy
   | some c=>rw[hli] at hy;exact⟨c,rfl,by injection hy⟩
  have hkk0:K[i]?.getD []=c.1:=by rw[←HKL.out];simp[keysOf,hc1]
  have hkb:=HKS.out c (List.mem_of_getElem? hc1);obtain⟨k,hk⟩:∃k,c.1=k:=⟨_,rfl⟩
  rw[hk] at hkk0 hkb;rw[hc2] at hkb;have hkk:k.length≤1000:=by have:=hkb.1;omega
  have HKB:=Hd hkb.2;have HC1:=Hd hc1;have HC2:=Hd hc2;have HCK:=Hd hk;have HDK:=Hd hdk;clear hc1 hc2 hk hdk hy hkb;subst eca;cases n with
  | zero=>exact hkid.elim
  | succ n=>
  obtain⟨y1,y2,y3,y4,y5,y6,y7,y8,_,_,ey,_⟩:=hkid.openK;subst ey;have e0:=(hb.cell (p:=⟨bc,oc+i*5+0,none⟩) hbc).trans (hcell 0 _ rfl);have e1:=(hb.cell (p:=⟨bc,oc+i*5+1,none⟩) hbc).trans (hcell 1 _ rfl);have e2:=(hb.cell (p:=⟨bc,oc+i*5+2,none⟩) hbc).trans (hcell 2 _ rfl);have e3:=(hb.cell (p:=⟨bc,oc+i*5+3,none⟩) hbc).trans (hcell 3 _ rfl);have e4:=(hb.cell (p:=⟨bc,oc+i*5+4,none⟩) hbc).trans (hcell 4 _ rfl);rw[Nat.add_zero] at e0;have HKID:=Hd hkid;have HB9:=Hd hb;have HX9:=Hd hx;have d0:decide ((i:Int)<(m:Int))=true:=by simp;omega
  have d0':decide (i<m)=true:=by simp;omega
  clear hcell hkid hx;cases i with
  | zero=>
   simp only[Nat.zero_mul,Nat.add_zero] at e0 e1 e2 e3 e4
   by_cases hla:m≤0+1
   ·have d3:decide ((0:Int)+1<(m:Int))=false:=by simp;omega
    have d3':decide (0+1<m)=false:=by simp;omega
    simp only[Nat.zero_add,Int.zero_add] at d3 d3';have HNX:Hid (nextH hi (l.drop (0+1))=hi):=Hd (nextH_last (by have:=HLL.out;omega));have HHI:=Hd hhi;clear hla;obtain⟨D,hD⟩:∃D,depthT (n+1) kid lo hi false=D:=⟨_,rfl⟩
    have CD:=fun W (hW:Below w.heap.size w W)=>IH (HKID.out.below hW) HKB.out lo hi hlo HHI.out
    exact q9dfb63
   have d3:decide ((0:Int)+1<(m:Int))=true:=by simp;omega
   have d3':decide (0+1<m)=true:=by simp;omega
   obtain⟨bk2,ok2,e2,hbk2,hck2⟩:=H1.out.key_at (show 0+1<m by omega);obtain⟨k2,hk2⟩:∃k,K[0+1]?.getD []=k:=⟨_,rfl⟩
   rw[hk2] at hck2;have hk2l:=HK.out (0+1) (by omega);rw[hk2] at hk2l;have HNX:Hid (nextH hi (l.drop (0+1))=k2):=Hd (nextH_mid (by rw[HKL.out];exact hk2) (by have:=HLL.out;omega));subst e2;simp only[Nat.zero_add,Int.zero_add] at d3 d3';have g2:=(hb.cell (p:=⟨bk2,ok2+(0+1),none⟩) hbk2).trans hck2;simp only[Nat.zero_add] at g2;have hbk9:=Nat.lt_of_lt_of_le hbk2 hb.size;have hla2:1<m:=by omega
   have hla3:(1:Int)<(m:Int):=by omega
   clear hla hck2 hk2;have HHI:Hid (k2.length≤1000):=Hd (by omega);obtain⟨D,hD⟩:∃D,depthT (n+1) kid lo k2 false=D:=⟨_,rfl⟩
   have CD:=fun W (hW:Below w.heap.size w W)=>IH (HKID.out.below hW) HKB.out lo k2 hlo HHI.out
   exact q9dfb63
  | succ i=>
   obtain⟨bk,ok,eka,hbk,hck⟩:=H1.out.key_at hlt;rw[hkk0] at hck;subst eka;have g1:=(hb.cell (p:=⟨bk,ok+(i+1),none⟩) hbk).trans hck;have d5:decide ((0:Int)<((i+1:Nat):Int))=true:=decide_eq_true (by omega);have d5':decide (0<i+1)=true:=by simp
   have hbk9:=Nat.lt_of_lt_of_le hbk hb.size;clear hck
   by_cases hla:m≤i+1+1
   ·have d3:decide ((i:Int)+1+1<(m:Int))=false:=by simp;omega
    have d3':decide (i+1+1<m)=false:=by simp;omega
    have HNX:Hid (nextH hi (l.drop (i+1+1))=hi):=Hd (nextH_last (by have:=HLL.out;omega));have HHI:=Hd hhi;clear hla;obtain⟨D,hD⟩:∃D,depthT (n+1) kid k hi false=D:=⟨_,rfl⟩
    have CD:=fun W (hW:Below w.heap.size w W)=>IH (HKID.out.below hW) HKB.out k hi hkk HHI.out
    exact qd52b26
   have d3:decide ((i:Int)+1+1<(m:Int))=true:=by simp;omega
   have d3':decide (i+1+1<m)=true:=by simp;omega
   obtain⟨bk2,ok2,e2,hbk2,hck2⟩:=H1.out.key_at (show i+1+1<m by omega);obtain⟨k2,hk2⟩:∃k,K[i+1+1]?.getD []=k:=⟨_,rfl⟩
   rw[hk2] at hck2;have hk2l:=HK.out (i+1+1) (by omega);rw[hk2] at hk2l;have HNX:Hid (nextH hi (l.drop (i+1+1))=k2):=Hd (nextH_mid (by rw[HKL.out];exact hk2) (by have:=HLL.out;omega));cases e2;have g2:=(hb.cell (p:=⟨bk,ok+(i+1+1),none⟩) hbk2).trans hck2;have hla2:i+1+1<m:=by omega
   have hla3:(i:Int)+1+1<(m:Int):=by omega
   clear hla hck2 hk2;have HHI:Hid (k2.length≤1000):=Hd (by omega);obtain⟨D,hD⟩:∃D,depthT (n+1) kid k k2 false=D:=⟨_,rfl⟩
   have CD:=fun W (hW:Below w.heap.size w W)=>IH (HKID.out.below hW) HKB.out k k2 hkk HHI.out
   exact qd52b26
 ·obtain rfl:i=m:=by omega
  have HR:Hid (R=some far):=Hd (by rw[←hdk,List.drop_of_length_le (by have:=HLL.out;omega)];rfl);have HB9:=Hd hb;clear hdk hb hx hx0 hx1;go_wp2_with fail;go_ret;exact⟨by rw[HR.out];rfl,HB9.out⟩):p:=h
theorem qf1843d (h:p:=by
 have HE:Hid (LaidTo w l fr (.returned (.tuple #[.agg #[.int .i64 p,.bool lf,.slice a1 n1 c1],.slice none 0 0,.bool false])) (((wr.setCell ⟨w.heap.size,0,none⟩ (.int .i64 p)).setCell ⟨w.heap.size,1,none⟩ (.bool lf)).setCell ⟨w.heap.size,2,none⟩ (.slice a1 n1 c1))):=Hd ⟨((hb.setCell (by simp) _).setCell (by simp) _).setCell (by simp) _,.inl ⟨hs,_,_,_,_,_,_,rfl⟩⟩;have hxe:=((hz0.put 0 (.int .i64 p) (by simp)).put 1 (.bool lf) (by simp)).put 2 (.slice a1 n1 c1) (by simp);have t0:=hxe.cell 0 0 rfl rfl;have t1:=hxe.cell 0 1 rfl rfl;have t2:=hxe.cell 0 2 rfl rfl;have z0:=hz0.cell 0 0 rfl rfl;have z1:=hz0.cell 0 1 rfl rfl;have z2:=hz0.cell 0 2 rfl rfl;have y0:=hz0.frozen 0 0 rfl;have y1:=hz0.frozen 0 1 rfl;have y2:=hz0.frozen 0 2 rfl;clear HBAD HGOOD hs hxe hz0 hb kb;go_wp2_with fail;refine bodyPost_ret (v:=.tuple #[.agg #[.int .i64 p,.bool lf,.slice a1 n1 c1],.slice none 0 0,.bool false]) (by simp only[results,Tryz.results10];simp[go_sem,t0,t1,t2]) rfl HE.out):p:=h
theorem q0bf88d (h:p:=by
 refine wp_region_noPanic ?_;refine wp_region_held_drew (S:=(fun W=>Below w2.heap.size w2 W)) (by kernel_rfl) (by exact hB0) (fun hHeld=>?_);refine tks [0,1] ?_;refine tks [2,3] ?_;refine tks [4,5] ?_;refine tks [6,7] ?_;refine tks [8,9,10] ?_;refine rdy 11 (fun K hK=>?_);refine step_convert_run rfl _ _ _ rfl rfl hcv ?_;refine bkw hK (by(with_reducible first|assumption|exact hBx11|exact hBx12)) (fun hHeld=>?_);clear hK K;refine rdy 12 (fun K hK=>?_)
 (rw[if_pos (by rfl)];go_wp2_with (fail);refine C.mono ?_;rintro e wx ⟨rfl,hdx,hbx⟩;have hBx12:Below w2.heap.size w2 wx:=hBx11.trans (hbx.mono (Nat.le_succ _)))
 refine bkw hK (by(with_reducible first|assumption|exact hBx11|exact hBx12)) (fun hHeld=>?_);clear hK K;refine wpAnyH_done (by kernel_rfl) ?_ _;refine NoPanic.normal ?_;have HDX:=Hd hdx;have HBX:=Hd hBx12;clear cA cB hdx hBx12 hBx11 hbx hcv C;go_wp2_with fail;go_roundw
 case rel=>exact⟨i+1,_,hlt,by go_num,HDX.out,HWR.out,HBX.out⟩
 case measure=>simp[intOf];omega):p:=h
theorem qb7fab6 (h:p:=by
 go_wp2_with (first|(go_at_call 150;refine(CSum _ (by first|exact Below.refl _ _|assumption)).mono ?_;rintro e w9 ⟨rfl,rfl⟩)|(go_at_call 151;refine(CLow _ (by first|exact Below.refl _ _|assumption)).mono ?_;rintro e w9 ⟨rfl,rfl⟩))
 go_meet;exact⟨by rw[HE.out];rfl,rfl⟩):p:=h
theorem qa3ab36 (h:p:=by
 refine bkA hK (fun hHeld=>?_);clear hK K;refine rdy 13 (fun K hK=>?_)
 (rw[if_pos (by rfl)];go_simp;(with_reducible refine(CRc _ hB6).mono ?_);rintro e w9 ⟨p9,l9,a9,m9,d9,rfl,hn9,hb9⟩;have hB9:Below wr.heap.size wr w9:=below_via hB6 hb9;have hA9:AgreeF (fun x=>x≠w1.heap.size) wr w9:=AgreeF.of_below hB9;have hx9:=HX.out.step hB9;have z0:=hx9.cell 0 0 rfl rfl;have u0:=hx9.frozen 0 0 rfl;have z1:=hx9.cell 0 1 rfl rfl;have u1:=hx9.frozen 0 1 rfl;have z2:=hx9.cell 0 2 rfl rfl;have u2:=hx9.frozen 0 2 rfl;go_wp2_with (fail))
 refine bkA hK (fun hHeld=>?_);clear hK K;refine rdy 14 (fun K hK=>?_)
 (rw[if_pos (by rfl)];go_wp2_with (fail))
 refine bkA hK (fun hHeld=>?_);clear hK K;refine wpAnyH_done (by kernel_rfl) ?_ _;refine NoPanic.normal ?_;obtain⟨hrx,hA,hbw⟩:=RStay.mk (B:=w1.heap.size+1) hx9 hn9 (Nat.lt_succ_self _) hA9 (below_via HB.out hB9) (Nat.le_of_lt hs1);have HZX:=Hd (HZ.out.agree hA (fun q hq=>by simp at hq;subst hq;show w.heap.size≠w1.heap.size;omega));have HRX:=Hd hrx;have HBX:=Hd hbw;clear hrx hA hbw CRc l0 l1 m0 m1 m2 hmk hcv hb6 hB6 hA6 hx9 hn9 hA9 hB9 hb9 z0 z1 z2 u0 u1 u2;go_wp2_with fail;go_roundw
 case rel=>exact⟨i+1,M,T,hlt,by go_num,HRX.out,HLM,HZX.out,HALL,.inr n12,HBX.out⟩
 case measure=>simp[intOf];omega):p:=h
theorem qbe6c73 (h:p:=by
 go_wp2_with (first|(go_at_call 183;(with_reducible refine(F _).mono ?_);rintro en w7 ⟨rfl,hb7⟩;have hC7:=below_then hbw6 hb7;have B7:=B6.step hb7;have f0:=B7.cell 0 0 rfl rfl;have f1:=B7.cell 0 1 rfl rfl;have f2:=B7.cell 0 2 rfl rfl;have f3:=B7.cell 0 3 rfl rfl;have f4:=B7.cell 1 0 rfl rfl))
 go_ret;exact⟨ret_bool HF.out.symm,hC7⟩):p:=h
theorem qd52b26 (h:p:=by
 rw[hD] at CD;have HD:Hid (depthT (n+1) kid (if i+1=0 then lo else k) (nextH hi (l.drop (i+1+1))) false=D):=Hd (by rw[HNX.out];exact hD);clear hD;go_wp2_with fail;refine(CD _ (by have:=HB9.out.size;repeat (first|exact HB9.out|apply Below.al|(refine Below.st ?_ (by simp;omega))))).mono ?_;rintro e w9 ⟨rfl,hb9⟩;have hbq:Below w.heap.size w w9:=Below.trans (by have:=HB9.out.size;repeat (first|exact HB9.out|apply Below.al|(refine Below.st ?_ (by simp;omega)))) (hb9.mono (by have:=HB9.out.size;simp;omega));have hxq:Boxes w9 [(w.heap.size+1,[.string (strOf lo),.string (strOf hi)]),(w.heap.size,[.int .i64 pg,.bool false,.slice _ m kc,.slice va vn vc,.slice _ m cc])]:=Boxes.step (by repeat (first|exact HX9.out|apply Boxes.al|(refine Boxes.st ?_ (by intro p hp;simp at hp;rcases hp with rfl|rfl<;>simp<;>omega)))) hb9;have HBQ:=Hd hbq;have HXQ:=Hd hxq;clear hbq hxq hb9 n0 n1 n2 n3 n4 s0 s1 e0 e1 e2 e3 e4 CD hb;cases D with
 | none=>
  exact qf4a7ef
 | some d=>
  have hdi:depI (some d)=(d:Int):=rfl;rw[hdi];clear hdi;have hd9:d+1≤1000:=Nat.le_trans (depthT_lt HD.out) hn;have dz:((d:Int)+1 == 0)=false:=beq_eq_false_iff_ne.2 (by omega)
  by_cases hfd:d+1=far
  ·have dy:((d:Int)+1 != (far:Int))=false:=by simp;omega
   have HR:Hid (depK (fun t lo hi=>depthT (n+1) t lo hi false) lo hi (i+1+1) (d+1) (l.drop (i+1+1))=R):=Hd (by rw[←HDK.out];exact(depK_go HC1.out (by rw[HC2.out,HCK.out];exact HD.out) (by simp[hfd])).symm);have HFD:=Hd hfd;clear hfd;go_wp2_with fail;go_roundw
   case rel=>exact⟨i+1+1,d+1,by omega,by omega,by go_num,by go_num,HR.out,HBQ.out,HXQ.out⟩
   case measure=>simp[intOf];omega
  ·have dy:((d:Int)+1 != (far:Int))=true:=by simp;omega
   have HR:Hid (R=none):=Hd (by rw[←HDK.out];exact depK_far HC1.out (by rw[HC2.out,HCK.out];exact HD.out) ⟨by omega,hfd⟩);have HFD:=Hd hfd;clear hfd;exact q42d8b3):p:=h
theorem q8adeb7 (h:p:=by
 have TR2:TabR 4 (RcOn F n w2) w2 ad (m-i) (c-i) ((cellsR (.leaf p l)).drop i):=by
  rw[had];exact TabR.mono (TabR.dp (TabR.below (Nat.le_refl _) hb2 TR) hi9) (fun _ _ hy=>RcOn.below hy hb2)
 obtain⟨v3,w3,hr3,c3',hg3⟩:=c2'.row Tryz.underlying25 info_Cw hb2.size HF3.out (by rw[hl2];omega) TR2 (by omega);have hb3':Below W3.heap.size W3 w3:=hb2.grown hg3 hb2.size (fun g hg=>(c2'.ge hg).1);rw[←hcr] at c3';have hlen:cntT (.leaf 0 R)=m+1:=by
  have:=congrArg List.length hcr;rw[cellsR_len,List.length_append,hl2,List.length_drop,hcl] at this;omega
 have o3:=c3'.own HF3.out;obtain⟨a3,d3,ev3,_,_,_,_⟩:=o3.sl;rw[cellsR_len,hlen] at ev3;subst ev3;have n3:RNodeOn (Fr F W3) (n+1) w3 [.int .i64 0,.bool true,.slice a3 (m+1) d3] (.leaf 0 R):=o3.node (w:=W3) (Nat.le_refl _);have hbe:=below_via hb3 hb3';have hx3:=HX3.out.step hb3';have m0:=hx1.cell 0 0 rfl rfl;have m1:=hx1.cell 0 1 rfl rfl;have m2:=hx1.cell 0 2 rfl rfl;have m3:=hx1.cell 0 3 rfl rfl;have nn1:=hx1.cell 2 2 rfl rfl;have nn2:=(HX3.out.step hb2).cell 2 2 rfl rfl;have hic:i≤c:=by omega
 clear c0 c1' c2' c3' o3 TR TR2 hg1 hg2 hg3 hb1 hb2 hb3' hb3 hx1 hl1 hl2 had hcr hcl hs3 hlen;go_upto_region 12 with(fail)
 go_upto_region 13 with(at_builtin;refine wpList_append_run rfl _ _ _ _ rfl rfl rfl hr1 ?_)
 go_upto_region 14 with(at_builtin;refine wpList_append_run rfl _ _ _ _ rfl rfl rfl hr2 ?_)
 go_upto_region 15 with(at_builtin;refine wpList_append_run rfl _ _ _ _ rfl rfl rfl hr3 ?_)
 have z0:=hx3.cell 1 0 rfl rfl;have z1:=hx3.cell 1 1 rfl rfl;have z2:=hx3.cell 1 2 rfl rfl;have y0:=hx3.frozen 1 0 rfl;have y1:=hx3.frozen 1 1 rfl;have y2:=hx3.frozen 1 2 rfl;obtain⟨t0,t1,t2,HE⟩:=rend (F:=F) (w:=w) (hx3.sub (m:=[(w.heap.size+1,[.int .i64 0,.bool false,.slice none 0 0])]) (by simp)) (by omega) (fun hg=>by
  have:=HS3.out
  rcases hg with hg|hg
  ·have:=hF _ hg;omega
  ·omega) (fun b hb=>by
  have:=HS3.out
  rcases hb with hb|hb
  ·exact .inl hb
  ·exact .inr (by omega)) n3 hbe
 clear n3 hbe hx3;go_wp2_with fail;refine bodyPost_ret (v:=.agg #[.int .i64 0,.bool true,.slice a3 (m+1) d3]) (by simp only[results,Tryz.results88];simp[go_sem,t0,t1,t2]) rfl HE.out):p:=h
theorem q9dfb63 (h:p:=by
 rw[hD] at CD;have HD:Hid (depthT (n+1) kid (if (0:Nat)=0 then lo else k) (nextH hi (l.drop (0+1))) false=D):=Hd (by rw[HNX.out];exact hD);clear hD;go_wp2_with fail;refine(CD _ (by have:=HB9.out.size;repeat (first|exact HB9.out|apply Below.al|(refine Below.st ?_ (by simp;omega))))).mono ?_;rintro e w9 ⟨rfl,hb9⟩;have hbq:Below w.heap.size w w9:=Below.trans (by have:=HB9.out.size;repeat (first|exact HB9.out|apply Below.al|(refine Below.st ?_ (by simp;omega)))) (hb9.mono (by have:=HB9.out.size;simp;omega));have hxq:Boxes w9 [(w.heap.size+1,[.string (strOf lo),.string (strOf hi)]),(w.heap.size,[.int .i64 pg,.bool false,.slice _ m kc,.slice va vn vc,.slice _ m cc])]:=Boxes.step (by repeat (first|exact HX9.out|apply Boxes.al|(refine Boxes.st ?_ (by intro p hp;simp at hp;rcases hp with rfl|rfl<;>simp<;>omega)))) hb9;have HBQ:=Hd hbq;have HXQ:=Hd hxq;clear hbq hxq hb9 n0 n1 n2 n3 n4 s0 s1 e0 e1 e2 e3 e4 CD hb;cases D with
 | none=>
  exact qf4a7ef
 | some d=>
  have hdi:depI (some d)=(d:Int):=rfl;rw[hdi];clear hdi;have hd9:d+1≤1000:=Nat.le_trans (depthT_lt HD.out) hn;have dz:((d:Int)+1 == 0)=false:=beq_eq_false_iff_ne.2 (by omega);have HR:Hid (depK (fun t lo hi=>depthT (n+1) t lo hi false) lo hi (0+1) (d+1) (l.drop (0+1))=R):=Hd (by rw[←HDK.out];exact(depK_go HC1.out (by rw[HC2.out,HCK.out];exact HD.out) (by simp)).symm);go_wp2_with fail;go_roundw
  case rel=>exact⟨0+1,d+1,by omega,by omega,by go_num,by go_num,HR.out,HBQ.out,HXQ.out⟩
  case measure=>simp[intOf];omega):p:=h
theorem qb94b03 (h:p:=by
 have nC:=one_cell hC (cell_kid [] hA nT ⟨.inr (Nat.le_refl _),hA.lt⟩);have nM:RNodeOn (fun x=>Fr F w4 x∧x<W7.heap.size) (N+2) W7 [.int .i64 0,.bool false,.slice (some ⟨w4.heap.size+1,0,none⟩) 1 1] (.node 0 [([],t)]):=
  RNodeOn.mk (t:=.node 0 [([],t)]) nC (.inr fun b off e=>by cases e;exact⟨.inr (by omega),hC.lt⟩)
 have hmo:MendOk N [([],t)]:=⟨by simp,fun c hc=>by simp at hc;subst hc;exact HO1.out,fun c hc d hd=>by simp at hc hd;subst hc hd;rfl,fun c hc=>by simp at hc;subst hc;exact HO2.out,fun j hj=>by simp at hj⟩
 have CM:=rmend_any (fun _ h=>h.2) nM hmo (k:=0) (by simp);rw[show((0:Nat):Int)=0 from rfl,←hs6] at CM;have HX7:=Hd (hx4.step hb47);have HB7:=Hd hbw7;have HS6:=Hd hs6;clear hx4 hbw4 hb47 hA hC nT nC nM hmo hbw7 hs6;go_wp2_with fail;refine CM.mono ?_;rintro e w8 hq;obtain⟨p1,l1,a1,m1,d1,rfl,hn1,hb1⟩:=hq.split;have hx1:=HX7.out.step hb1;have hbw1:=below_via HB7.out hb1;have z0:=hx1.cell 0 0 rfl rfl;have z1:=hx1.cell 0 1 rfl rfl;have z2:=hx1.cell 0 2 rfl rfl;have y0:=hx1.frozen 0 0 rfl;have y1:=hx1.frozen 0 1 rfl;have y2:=hx1.frozen 0 2 rfl;obtain⟨t0,t1,t2,HE⟩:=rend (F:=F) (w:=w) (hx1.sub (m:=[(w.heap.size+1,[.int .i64 0,.bool false,.slice none 0 0])]) (by simp)) (by omega) (fun hg=>by
  rcases hg with hg|hg
  ·rcases hg.1 with hg|hg
   ·have:=hF _ hg;omega
   ·omega
  ·omega) (fun b hb=>by
  rcases hb with hb|hb
  ·rcases hb.1 with hb|hb
   ·exact .inl hb
   ·exact .inr (by omega)
  ·exact .inr (by omega)) hn1 hbw1
 clear hx1 hn1 hb1 hbw1 hq CM;exact q03511a):p:=h
theorem qa5d300 (h:p:=by
 refine bkA hK (fun hHeld=>?_);clear hK K;refine rdy 7 (fun K hK=>?_)
 (refine step_append_run rfl _ _ _ _ rfl rfl rfl hrun2 ?_)
 refine bkA hK (fun hHeld=>?_);clear hK K;refine tks [8] ?_;refine rdy 9 (fun K hK=>?_)
 (rw[if_pos (by rfl)];go_wp2_with (fail))
 refine bkA hK (fun hHeld=>?_);clear hK K;refine wpAnyH_done (by kernel_rfl) ?_ _;refine NoPanic.normal ?_;obtain⟨wy,hwy⟩:∃x,x=(w9.setCell ⟨w.heap.size+1+1+1,1,none⟩ (.slice a9 (es.length+1) c9)):=⟨_,rfl⟩
 rw[←hwy] at HQ ⊢;clear hwy f8 f9 f7 hA00 hA1 hA3 hA4 hHeld x0 x1 x2 x3 xn hrun2 o4;go_wp2_with fail;go_roundw
 case rel=>exact⟨i+1,v5,_,la5,lc5,_,_,LL',_,_,_,dn++[(key,(⟨d,pvL d left2⟩:Tv))],hlt,by go_num,by have:=HL'.out;have:=HLL.out;omega,by have:=HES.out;simp;omega,HQ.out,by have:=HDN.out;simp;omega,HNX.out⟩
 case measure=>simp[intOf];omega):p:=h
theorem q060404 (h:p:=by
 refine bkA hK (fun hHeld=>?_);clear hK K;refine rdy 7 (fun K hK=>?_)
 (refine step_append_run rfl _ _ _ _ rfl rfl rfl hrun2 ?_)
 refine bkA hK (fun hHeld=>?_);clear hK K;refine tks [8] ?_;refine rdy 9 (fun K hK=>?_)
 (rw[if_pos (by rfl)];go_wp2_with (fail))
 refine bkA hK (fun hHeld=>?_);clear hK K;refine wpAnyH_done (by kernel_rfl) ?_ _;refine NoPanic.normal ?_;obtain⟨wy,hwy⟩:∃x,x=(w9.setCell ⟨w.heap.size+1+1+1,1,none⟩ (.slice a9 (es.length+1) c9)):=⟨_,rfl⟩
 rw[←hwy] at HQ ⊢;clear hwy f8 f9 f7 hA00 hA1 hA3 hA4 hHeld x0 x1 x2 x3 xn hrun2 o4;go_wp2_with fail;go_roundw
 case rel=>exact⟨i+1,v5,_,la5,lc5,_,_,LL',_,_,_,dn++[(key,RR.1)],hlt,by go_num,by have:=HL'.out;have:=HLL.out;omega,by have:=HES.out;simp;omega,HQ.out,by have:=HDN.out;simp;omega,HNX.out⟩
 case measure=>simp[intOf];omega):p:=h
theorem q779872 (h:p:=by
 generalize partC v i=Q at *;have hpk0:∀W:World,Calls Tryz.prog 169 #[.int .u8 3,.slice (some ⟨W.heap.size,0,none⟩) 1 1] (W.alloc (.cells #[.string (strOf (U++Q))] 9)) (StrPost (W.alloc (.cells #[.string (strOf (U++Q))] 9)) (pageOf 3 [U++Q]) 0):=fun W=>by
  have:=rpack_any 3 (some ⟨W.heap.size,0,none⟩) 1 1 [U++Q] (W.alloc (.cells #[.string (strOf (U++Q))] 9)) (strsC_single W (U++Q) _) (by rw[lens_one,hcl];omega)
  rwa [packV,packE,if_pos HFI.out,if_pos HFI.out] at this
 clear hml hcl;go_wp2_with fail;refine(P _).mono ?_;rintro e w4 ⟨rfl,rfl⟩;go_wp2_with fail;refine(hpk0 _).mono ?_;rintro e w5 ⟨rfl,hb5⟩;have hA8:Below w3.heap.size w3 (w3.alloc (.cells #[.string (strOf (U++Q))] 9)):=(Below.refl _ _).alloc (Nat.le_refl _) _;have hb8:=below_then (below_then HB3.out hA8) hb5;have ho8:=own_below (own_below HO3.out (Nat.le_refl _) hA8) (Nat.le_refl _) hb5;obtain⟨v10,w10,hr10,ho10,hg10,_⟩:=run_append_new (P:=Tryz.prog) (w:=w5) w.heap.size 46 9 k0 _ 1 16 Tryz.underlying46 hk hx0 hx1 hx2 rfl (by decide) ho8 #[.string (strOf (pageOf 3 [U++Q]))] rfl (by intro u hu;simp at hu;subst hu;rfl) (by unfold maxLen;omega) (by omega) hb8.size;have HB10:=Hd (hb8.grown hg10 hb8.size (own_ge ho8));have HO10:Hid (w10.ownsRow w.heap.size 9 1 v10 (i+1) (((List.range (i+1)).map (rpageC v at_)).map sv)):=Hd (by rw[HRS.out,HPGE.out,List.map_append];exact ho10);clear hpk0 hb5 hb8 ho8 ho10 hg10 hA8 P
 go_wp2_with (at_builtin;refine wpList_append_run rfl _ _ _ _ rfl rfl rfl hr10 ?_)
 go_roundw
 case rel=>exact⟨i+1,hlt,by go_num,HO10.out,HB10.out,HT.out HE.out⟩
 case measure=>simp[intOf];omega):p:=h
theorem qa6eaf4 (h:p:=by
 refine bkA hK (fun hHeld=>?_);clear hK K;refine rdy 8 (fun K hK=>?_)
 (refine step_append_run rfl _ _ _ _ rfl rfl rfl hrun2 ?_)
 refine bkA hK (fun hHeld=>?_);clear hK K;refine tks [9] ?_;refine rdy 10 (fun K hK=>?_)
 (rw[if_pos (by rfl)];go_wp2_with (fail))
 refine bkA hK (fun hHeld=>?_);clear hK K;refine wpAnyH_done (by kernel_rfl) ?_ _;refine NoPanic.normal ?_;obtain⟨wy,hwy⟩:∃x,x=(w9.setCell ⟨w5.heap.size+1,4,none⟩ (.slice a9 (i+1) c9)):=⟨_,rfl⟩
 rw[←hwy] at HQ ⊢;clear hwy f8 f9 f7 hA00 hA1 hA3 hA4 hHeld x1 x2 x3 x4 hrun2 o3;go_wp2_with fail;go_roundw
 case rel=>exact⟨i+1,_,_,_,s2,Li++[(key,kid)],hlt,by go_num,by simp;exact HLI.out,HSOK2.out.1,hroom2,HAF2.out,HQ.out⟩
 case measure=>simp[intOf];omega):p:=h
theorem qdf4017 (h:p:=by
 refine bkA hK (fun hHeld=>?_);clear hK K;refine rdy 7 (fun K hK=>?_)
 (refine step_append_run rfl _ _ _ _ rfl rfl rfl hrun2 ?_)
 refine bkA hK (fun hHeld=>?_);clear hK K;refine tks [8] ?_;refine rdy 9 (fun K hK=>?_)
 (rw[if_pos (by rfl)];go_wp2_with (fail))
 refine bkA hK (fun hHeld=>?_);clear hK K;refine wpAnyH_done (by kernel_rfl) ?_ _;refine NoPanic.normal ?_;obtain⟨wy,hwy⟩:∃x,x=(w9.setCell ⟨w5.heap.size+1,3,none⟩ (.slice a9 (i+1) c9)):=⟨_,rfl⟩
 rw[←hwy] at HQ ⊢;clear hwy f8 f9 f7 hA00 hA1 hA3 hA4 hHeld x1 x2 x3 x4 hrun2 o3;go_wp2_with fail;go_roundw
 case rel=>exact⟨i+1,_,_,_,s2,Li++[(key,tv)],hlt,by go_num,by simp;exact HLI.out,HSOK2.out,HAF2.out,HQ.out⟩
 case measure=>simp[intOf];omega):p:=h
theorem qc8f5eb (h:p:=by
 go_wp2_with (at_builtin;refine wpList_append_run rfl _ _ _ _ rfl rfl rfl hr8 ?_)
 go_roundw
 case rel=>exact⟨i+1,hlt,by go_num,HO8.out,HB8.out,HX8.out,HN8.out⟩
 case measure=>simp[intOf];omega):p:=h
theorem qcd2a40 (h:p:=by
 have hlt':(i:Int)<(R.2.1.length:Int):=by omega
 have hym:=List.mem_of_getElem? hy;have hy128:=(HWP.out y hym).2;have hstep:=hwr.step HWD.out (fun x hx=>by have:=(HWP.out x hx).1;omega) hy hy128;obtain⟨py,by9⟩:=y;dsimp only at *;obtain⟨c11,w11,hcv,hbs,hb11⟩:=str_bytes (P:=Tryz.prog) wr.drew Tryz.underlying9 Tryz.underlying42 Tryz.underlying5 by9 (by omega);rw[hy128] at hcv hbs;have hbd:Below wr.heap.size wr w11:=below_via (Below.dr (Below.refl _ _)) hb11;have hop:=hd.opens_at hbd;have C:=write_o hop hbs (fun g off e=>.inr (by cases e;exact Nat.le_refl _)) (by omega) 0 py;rw[hstep.1] at C;have cA:∀W,Below w2.heap.size w2 W→W.cell? ⟨bl,ol+i*2,none⟩=some (.int .i64 py):=fun W hW=>(hW.cell (p:=⟨bl,ol+i*2,none⟩) hbl).trans c0
 have cB:∀W,Below w2.heap.size w2 W→W.cell? ⟨bl,ol+i*2+1,none⟩=some (.string (strOf by9)):=fun W hW=>(hW.cell (p:=⟨bl,ol+i*2+1,none⟩) hbl).trans c1
 have hB0:Below w2.heap.size w2 wr.drew:=hb.drew;have hBx11:Below w2.heap.size w2 w11:=below_then hb hbd;have HWR:=Hd hstep.2;clear hd hwr hb hop c0 c1 hstep hy hym hbs hb11 hbd hy128;go_upto_region 11 with(fail)
 exact q0bf88d):p:=h
theorem qeefabc (h:p:=by
 have f1:=BW.frozen 0 1 rfl;have e2:=BW.cell 0 1 rfl rfl;have hbw9:Below w3.heap.size w3 w9:=(below_then hbw7 hb8).grown hg9 (by simp;omega) (fun k e=>by have:=own_ge hown7 _ e;omega);have HB9:=Hd hbw9;have HO9:=Hd ho9;have HR9:=hr9;rw[show(w7.alloc (.cells #[.string (strOf x.data),.bool x.far,.int .i64 x.size,.int .i64 x.page] 209)).heap.size=w7.heap.size+1 from by simp] at HR9;clear hr9 hbw9 ho9 hk91 hk92 hk93
 go_wp2_with (at_builtin;refine wpList_append_run rfl _ _ _ _ rfl rfl rfl HR9 ?_)
 go_roundw
 case rel=>
  have hne9:Value.ownBlock (.slice a9 (es.length+1) k9)≠some w3.heap.size:=fun e=>by have:=own_ge HO9.out _ e;omega
  exact⟨k+1,_,_,by omega,by go_num,HDT2.out,BW.put 1 _ (fun p hp=>by simp at hp;subst hp;simp;omega),own_set HO9.out ⟨w3.heap.size,1,none⟩ (.slice a9 (es.length+1) k9) hne9,HB9.out.setCell (Nat.le_refl _) _⟩
 case measure=>simp[intOf];omega):p:=h
theorem qbf305f (h:p:=by
 have hFs:∀b,(F b∨(wB.heap.size≤b∧vi.ownBlock≠some b))→b≠sb∧b≠w.heap.size+1+1∧b≠w.heap.size+1∧vi.ownBlock≠some b:=fun b hb=>by
  rcases hb with hb|hb
  ·have:=HFB.out b hb
   exact⟨by omega,by omega,by omega,fun e=>by have:=(HM.out.ly.ge e).1;omega⟩
  ·have:=HSB.out
   exact⟨by omega,by omega,by omega,hb.2⟩
 refine⟨by have:=hoe.size;have:=ho6.size;omega,fun b hb hlt9=>?_⟩;obtain⟨f1,f2,f3,f4⟩:=hFs b hb;have r1:=HO2.out.block (k:=b) hlt9 (by simpa using f1);have r2:=HO3.out.block (k:=b) (by omega) (by simpa using f2);have r3:=HB4.out.block b (show b<w3.heap.size by omega);have r4:=ho6.block (k:=b) (by omega) (fun hm9=>by rcases RS.mem.1 hm9 with e|e;exact f1 e;exact f4 e);have r5:=hoe.block (k:=b) (by have:=ho6.size;omega) (by simpa using f3);exact r5.trans (r4.trans (r3.trans (r2.trans r1)))):p:=h
theorem qdf05d4 (h:p:=by
 refine bkw hK (by with_reducible assumption) (fun hHeld=>?_);clear hK K;refine tks [5,6,7] ?_;refine rdy 8 (fun K hK=>?_);rw[if_pos (by rfl)]
 go_wp2_with (first|(go_at_call 176;(with_reducible refine(CE _ hC7).mono ?_);rintro e1 w9 ⟨v9,rfl,ho9,hb9⟩;have hC9:=hC7.trans (hb9.mono hC7.size);obtain⟨a9,c9,rfl,hs9⟩:=ho9.bss))
 refine bkw hK (by with_reducible assumption) (fun hHeld=>?_);clear hK K;refine rdy 9 (fun K hK=>?_);rw[if_pos (by rfl)]
 go_wp2_with (first|(go_at_call 175;(with_reducible refine(CS _ _ _ _ rfl hs9).mono ?_);rintro e1 w10 ⟨rfl,rfl⟩))
 refine bkw hK (by with_reducible assumption) (fun hHeld=>?_);clear hK K;refine tks [10,11,12] ?_;refine wpAnyH_done (by kernel_rfl) ?_ _;refine NoPanic.normal ?_;have hb8:=below_then hbw hC9;go_wp2_with fail;go_ret;exact⟨ret_bool (by rw[HN.out,hg2,Bool.true_and];exact decide_eq_decide.2 (by omega)),hb8⟩):p:=h
theorem q993faf (h:p:=by
 go_wp2_with fail;go_ret;exact⟨by rw[HE.out];rfl,HB.out⟩):p:=h
theorem qe53638 (h:p:=by
 have dd:(decide ((0:Int)<(needC (dl:Int):Int))=true∧decide (0<needC (dl:Int))=true)∨(decide ((0:Int)<(needC (dl:Int):Int))=false∧decide (0<needC (dl:Int))=false∧decide ((400:Int)<dl)=true∧decide (400<dl)=true):=by
  by_cases h4:400<dl
  ·right
   have:needC (dl:Int)=0:=by unfold needC;rw[if_pos (.inr (by omega))]
   rw[this];exact⟨by simp,by simp,by simp;omega,by simp;omega⟩
  ·left
   have:0<needC (dl:Int):=by unfold needC;rw[if_neg (by omega)];omega
   exact⟨by simp;omega,by simp;omega⟩
 generalize needC (dl:Int)=nq at *;clear hvs
 rcases dd with⟨d4,d4'⟩|⟨d4,d4',d5,d5'⟩
 ·go_wp2_with fail
  refine(N _).mono ?_;rintro e w2 ⟨rfl,rfl⟩;exact qc8f5eb
 ·go_wp2_with fail
  refine(N _).mono ?_;rintro e w2 ⟨rfl,rfl⟩;exact qc8f5eb):p:=h
theorem q7e447e (h:p:=by
 refine bkR hK (fun hHeld=>?_);clear hK K;refine tks [18] ?_;refine rdy 19 (fun K hK=>?_)
 (rw[if_pos (by rfl)];go_wp2_with (fail))
 refine bkR hK (fun hHeld=>?_);clear hK K;refine tks [20] ?_;refine wpAnyH_done (by kernel_rfl) ?_ _;refine NoPanic.normal ?_;go_wp2_with fail;have hbe:Below w.heap.size w w13:=below_via HBW.out hb13;have hxe:=((hx13.put 0 (.int .i64 0) (by simp)).put 1 (.bool false) (by simp)).put 2 (.slice a13 (m+1) d13) (by simp);have t0:=hxe.cell 0 0 rfl rfl;have t1:=hxe.cell 0 1 rfl rfl;have t2:=hxe.cell 0 2 rfl rfl;refine bodyPost_ret (v:=.tuple #[.agg #[.int .i64 0,.bool false,.slice a13 (m+1) d13],.bool true]) (by simp only[results,Tryz.results165];simp[go_sem,t0,t1,t2]) rfl ?_;exact parted_end HSP.out (by omega) hF (by omega) n13 hbe):p:=h
theorem qe37dd5 (h:p:=by
 have hE:gE=11:=by rw[HE.out,hN];rfl
 have hL:gL=[]:=by rw[HL.out,if_neg (by rw[hE];decide)]
 have hF:gF=false:=by rw[HF.out,if_neg (by rw[hE];decide)]
 subst hE hL hF;have BZ:=BY7.step (hb8 (.cells #[.string ⟨#[]⟩,.bool false,.int .i64 0,.int .i64 0] 209));have f0:=BZ.frozen 1 0 rfl;have f1:=BZ.frozen 1 1 rfl;have g0:=BZ.cell 1 0 rfl rfl;have g1:=BZ.cell 1 1 rfl rfl;have hta:=ta_none x w7;go_wp2_with fail;refine bodyPost_ret (v:=.tuple #[.agg #[.bool false,.slice none 0 0],.int .i64 11]) (by simp[results,Tryz.results96,go_sem,g0,g1]) rfl (getpost_none rfl ?_);have hz7:=hb7.size;exact((((below_then HB.out (below_then hbw7 (hb8 _))).setCell (Nat.le_refl _) _).setCell (Nat.le_refl _) _))):p:=h
theorem q06aa71 (h:p:=by
 rw[hn] at CK hE;have hE0:gE=11:=hE;have hL:gL=[]:=by rw[HL.out,if_neg (by rw[hE0];decide)]
 have hF:gF=false:=by rw[HF.out,if_neg (by rw[hE0];decide)]
 clear hn hE hdl HE HL HF;subst hE0 hL hF;go_wp2_with fail;refine CK.mono ?_;rintro e w5 ⟨rfl,hb5⟩;have BY5:=BY.step hb5;have hbb5:=below_then hbb hb5;have g2:=BY5.cell 1 0 rfl rfl;have g3:=BY5.cell 1 1 rfl rfl;have f2:=BY5.frozen 1 0 rfl;have f3:=BY5.frozen 1 1 rfl;go_wp2_with fail;refine bodyPost_ret (v:=.tuple #[.agg #[.bool false,.slice none 0 0],.int .i64 11]) (by simp[results,Tryz.results96,go_sem,g2,g3]) rfl (getpost_none rfl ?_);exact((hbb5.setCell (Nat.le_refl _) _).setCell (Nat.le_refl _) _)):p:=h
theorem q8f9fd8 (h:p:=by
 go_wp2_with (at_builtin;refine wpList_append_row rfl _ _ 42 rfl w.heap.size 5 i0 _ 1 Tryz.underlying42 hi hz0 hz1 hz2 rfl _ 0 [] rfl (own_made .u8 w 5 [] rfl (Nat.le_refl _) (by unfold maxLen;simp)) .u8 (some x) len cap (toI l) rfl (h.below (Nat.le_refl _) ((Below.refl _ _).alloc (Nat.le_refl _) _)) (by unfold maxLen;omega) (by omega) (by simp) ?_)
 intro v2 w2 hown hg;have hB:=((Below.refl w.heap.size w).alloc (Nat.le_refl _) (.cells #[] 5)).grown hg (by simp) (fun k e=>by cases e;exact Nat.le_refl _);clear hg;have hown':w2.ownsRow w.heap.size 5 1 v2 l.length ((toI l).map (Value.int .u8)):=by
  rw[hll.out];simpa using hown
 clear hown
 go_wp2
 go_ret;exact⟨_,rfl,hown',hB⟩):p:=h
theorem qe30b5b (h:p:=by
 have BX:=HBX.out;have hbw:=hbl.out;have hx:=append_strs (own_below hown (Nat.le_refl _) hE) (cellN true e) (by omega) (Nat.le_trans hwl hE.size);obtain⟨v9,wz,hr9,ho9,hg9⟩:=hx;have hbe:=below_then hbw hE;have hz9:=hbe.grown hg9 hbe.size hov;have B9:=(BX.step hE).grown hg9 (fun p hp=>by simp at hp;subst hp;exact hnb);rw[←cellsN_snoc1 true l k e hy] at ho9;exact q426cc0):p:=h
theorem q075758 (h:p:=by
 have HE:Hid (SizesPost w S (.returned u3) wr):=Hd ⟨_,rfl,by rw[HSL.out];rw[List.take_of_length_le (by rw[HSL.out];exact Nat.le_refl _)] at hown;exact hown,hb⟩;clear hown hb hbx hnb;go_wp2_with fail;go_ret;exact HE.out):p:=h
theorem qe02527 (h:p:=by
 go_upto_region 17 with(fail)
 go_upto_region 19 with(fail)
 go_wp2_with (at_builtin;refine wpList_append_run rfl _ _ _ _ rfl rfl rfl hr19 ?_)
 go_roundw
 case rel=>exact⟨i+1,a19,d19,hlt,by go_num,HX20.out,by rw[HS.out,←List.append_assoc];exact HC20.out,HB20.out⟩
 case measure=>simp[intOf];omega):p:=h
theorem qdddfaa (h:p:=by
 have HLE:=Hd hle;clear hle;refine CF.mono ?_;rintro e w1 ⟨rfl,hb1⟩;clear CF;have HB1:=Hd (HB.out.trans (hb1.mono HB.out.size));have HX1:=Hd (HX.out.step hb1);clear n0 n1 n2 n3 n4 s0 s1 hb1;have n0:=HX1.out.cell 1 0 rfl rfl;have n1:=HX1.out.cell 1 1 rfl rfl;have n2:=HX1.out.cell 1 2 rfl rfl;have n3:=HX1.out.cell 1 3 rfl rfl;have n4:=HX1.out.cell 1 4 rfl rfl;have s0:=HX1.out.cell 0 0 rfl rfl;have s1:=HX1.out.cell 0 1 rfl rfl;have HR:Hid (R=none):=Hd (HFAIL.out (by rw[HSZ.out];have:=HLE.out;simp;omega));go_wp2_with fail;go_ret;exact⟨by rw[HR.out];rfl,HB1.out⟩):p:=h
theorem qd21dd5 (h:p:=by
 go_wp2_with fail
 try rw[hwA]
 refine CF.mono ?_;rintro e w2 ⟨rfl,hb2⟩;have HB2:=Hd (HB.out.trans (hb2.mono HB.out.size));clear CF hb2;go_wp2_with fail;go_ret;exact⟨by rw[HE.out];rfl,HB2.out⟩):p:=h
theorem q3e4dd9 (h:p:=by
 obtain⟨k,hk,rfl,rfl⟩:=hrel
 by_cases hlt:k<l.length
 ·rcases h4 with h4|⟨b,off,rfl,hb,hc⟩
  ·omega
  have hck:=hc k hlt;have hsn:=sumI_take_succ l k hlt;have hb1:=(hs.take k).bd;have hb2:=hs.get k;generalize l[k]?.getD 0=x at *;have H:=Hd hsn;clear hsn hc hs
  go_wp2
  go_round
  case rel=>exact⟨k+1,by omega,by go_num,by rw[H.out]⟩
  case measure=>simp[intOf];omega
 ·obtain rfl:k=l.length:=by omega
  simp only[List.take_length];exact q72c811):p:=h
theorem q28d62d (h:p:=by
 refine CF.mono ?_;rintro e w1 ⟨rfl,hb1⟩;clear CF;have HB1:=Hd (HB.out.trans (hb1.mono HB.out.size));have HX1:=Hd (HX.out.step hb1);clear n0 n1 n2 n3 n4 s0 s1 hb1;have n0:=HX1.out.cell 1 0 rfl rfl;have n1:=HX1.out.cell 1 1 rfl rfl;have n2:=HX1.out.cell 1 2 rfl rfl;have n3:=HX1.out.cell 1 3 rfl rfl;have n4:=HX1.out.cell 1 4 rfl rfl;have s0:=HX1.out.cell 0 0 rfl rfl;have s1:=HX1.out.cell 0 1 rfl rfl;have HR:Hid (R=none):=Hd (HFAIL.out (rfl));go_wp2_with fail;go_ret;exact⟨by rw[HR.out];rfl,HB1.out⟩):p:=h
theorem q6907ba (h:p:=by
 obtain⟨L,h1,h2⟩:=h;have hlen:L.length=l.length:=h2.1
 rcases h1.2 with⟨rfl,h0⟩|⟨g,cap,cur,rfl,hg,hh,hn,hm,hr⟩
 ·have:l=[]:=List.eq_nil_of_length_eq_zero h0
  subst this;exact⟨none,0,rfl,by simp,by omega,⟨rfl,by simp,by unfold maxLen;omega,fun _=>rfl,.inl rfl⟩,.inl rfl⟩
 ·refine⟨_,cap,rfl,hn,by unfold maxLen at hm;omega,?_,Fa.of_own h1 (fun b hb=>hb)⟩
  obtain⟨a',c',e,hr'⟩:=Raw.of_own h1 hlen;cases e;exact hr'.tab h2):p:=h
theorem qd9c9d7 (h:p:=by
 refine bkw hK (by exact hA) (fun hHeld=>?_);clear hK K;refine rdy 11 (fun K hK=>?_);refine step_append_run rfl _ _ _ _ rfl rfl rfl hr9 ?_;refine bkw hK (by exact h9) (fun hHeld=>?_);clear hK K;refine tks [12,13] ?_;refine rdy 14 (fun K hK=>?_);refine step_store_run rfl 112 _ _ rfl rfl rfl (store_loose c10 f10) ?_;refine hK.out _ _ (by exact h10) (fun hHeld=>?_);clear hK K;refine wpAnyH_done (by kernel_rfl) ?_ _;refine NoPanic.normal ?_;clear hHeld;go_wp2_with fail;go_ret;exact END.out):p:=h
theorem q0fce22 (h:p:=by
 refine wpAnyH_done (by kernel_rfl) ?_ _;refine NoPanic.normal ?_;go_wp2_with fail;go_meet;exact⟨by simp[HBD.out],by first|assumption|exact Below.dr (Below.refl _ _)⟩):p:=h
theorem qa326a8 (h:p:=by
 go_upto_region 10 with(fail)
 try rw[hwx]
 clear hwx
 go_wp2_with (at_builtin;refine wpList_append_run rfl _ _ _ _ rfl rfl rfl hr8 ?_)
 go_roundw
 case rel=>exact⟨i+1,_,hlt,by go_num,HX8.out.put 2 _ (by intro p hp;simp at hp;rcases hp with rfl|rfl<;>simp<;>omega),HC8.out.set _ (by simp) (fun hf=>by have:=hF _ hf;simp at this;omega),HB8.out.setCell (by show w.heap.size≤w.heap.size+1+1;omega) _⟩
 case measure=>simp[intOf];omega):p:=h
theorem q4419a1 (h:p:=by
 have hpb:pageB e.v.page=false:=by simp[pageB];omega
 have HF:Hid (nodeB false l=false):=Hd (HNS.out (by rw[HST.out];simp[valOkN,hpb]));exact qbe6c73):p:=h
theorem q894f49 (h:p:=by
 refine wpAnyH_done (by kernel_rfl) ?_ _;refine NoPanic.normal ?_;have hb8:=below_then hbw6 hC7;exact q432908):p:=h
theorem q8ba21e (h:p:=by
 go_region_with (first|(go_at_call 139;(with_reducible refine(SH _).mono ?_);rintro e w2 ⟨bs,rfl,hs2,hb2⟩;have hC2:=hC.trans (hb2.mono hC.size);have e0:=c0 _ hC2;have e1:=c1 _ hC2)|(go_at_call 174;(with_reducible refine(KI _).mono ?_);rintro e w3 ⟨rfl,hb3⟩;have hC3:=hC2.trans (hb3.mono hC2.size);have q3:=(hs2.step hb3).cell 0 1 rfl rfl))
 all_goals
  go_wp2_with fail;go_meet;exact⟨rfl,hC3⟩):p:=h
theorem q743a71 (h:p:=by
 go_region_with (first|(go_at_call 139;(with_reducible refine(SH _).mono ?_);rintro e w2 ⟨bs,rfl,hs2,hb2⟩;have hC2:=hC.trans (hb2.mono hC.size);have e0:=c0 _ hC2;have e1:=c1 _ hC2)|(go_at_call 174;(with_reducible refine(KI _).mono ?_);rintro e w3 ⟨rfl,hb3⟩;have hC3:=hC2.trans (hb3.mono hC2.size);have q3:=(hs2.step hb3).cell 0 2 rfl rfl))
 all_goals
  go_wp2_with fail;go_meet;exact⟨rfl,hC3⟩):p:=h
theorem qb001f6 (h:p:=by
 rcases List.mem_append.1 hm9 with h|h
 ·exact hsn q (by rw[Nat.add_comm,List.take_add];exact List.mem_append_left _ hq) h
 ·rw[List.mem_singleton.1 h] at hq
  have hdr:p0∈s.drop (l.map fun c=>freshN n c.2).sum:=by
   rw[←e0',layKs_left (fun t s=>layT_left n t s),List.drop_eq_getElem_cons (show(l.map fun c=>freshN n c.2).sum<s.length by omega)];exact List.mem_cons_self
  exact hs.apart _ hdr hq):p:=h
theorem qfb406c (h:p:=by
 rw[←hW2];exact((Boxes.nil w).alloc #[.int .i64 p,.bool false,.slice (some ⟨b,off,none⟩) m c] 27 (b:=w.heap.size) rfl).alloc #[.int .i64 0,.bool false,.slice none 0 0] 27 (b:=w.heap.size+1) (by simp)):p:=h
theorem q627618 (h:p:=by
 rcases List.mem_append.1 hm9 with h|h
 ·exact hsn q (by rw[Nat.add_comm,List.take_add];exact List.mem_append_left _ hq) h
 ·rw[List.mem_singleton.1 h] at hq
  have hdr:p0∈s.drop (l.map fun c=>needC c.2.data.length).sum:=by
   rw[←e0',layVs_left,List.drop_eq_getElem_cons (show(l.map fun c=>needC c.2.data.length).sum<s.length by omega)];exact List.mem_cons_self
  exact hs.apart _ hdr hq):p:=h
theorem q0ddb2b (h:p:=by
 go_wp2_with fail;go_ret;exact⟨ret_bool HF.out.symm,hbw6⟩):p:=h
theorem q72c811 (h:p:=by
 go_wp2
 go_ret;exact⟨rfl,rfl⟩):p:=h
theorem qb5d386 (h:p:=by
 have hag:AgreeF (fun x=>(Value.slice aE es.length cE).ownBlock≠some x∧x≠w.heap.size+1+1+1) wz w2:=AgreeF.trans (AgreeF.dr (AgreeF.refl wz)) (AgreeF.of_below hb2);exact⟨a9,c9,w9,hr2,g8,g9,hm2.box.cell 1 1 rfl rfl,by have:=hm2.lt;have:=hb2.size;have h8:wz.heap.size≤w2.heap.size:=this;omega,hag,hag.trans gA,hag.trans gB,Hd hmQ⟩):p:=h
theorem q834c9f (h:p:=by
 go_wp2_with fail
 go_round
 case rel=>exact⟨(i+1)+1,by omega,by go_num,HT2.out⟩
 case measure=>simp[intOf];omega):p:=h
theorem qe9cca3 (h:p:=by
 refine bkw hK (by with_reducible assumption) (fun hHeld=>?_);clear hK K;refine tks [5,6] ?_;refine tkn [7,8] ?_;refine tkn [9,10] ?_;refine tks [11,12] ?_;refine wpAnyH_done (by kernel_rfl) ?_ _;refine NoPanic.normal ?_;have hb8:=below_then hbw hC7;go_wp2_with fail;go_ret;exact⟨ret_bool (by rw[HN.out,hg2,Bool.false_and]),hb8⟩):p:=h
theorem q317315 (h:p:=by
 go_wp2_with fail
 go_round
 case rel=>exact⟨0+1,by omega,by go_num,HT2.out⟩
 case measure=>simp[intOf];omega):p:=h
theorem q44d2aa (h:p:=by
 have HO:=Hd ho10;have HB10:=Hd hb10;clear ho10 hb10 B10 hg10 hr10 hown9 hk91 hk92 hk93 ho9 ha9 hr9 B9 hC9 hg9 hs8 ho8 B8 hC8 hb8 B7 hC7 hb7 ho7 hC B6 B6d c0 c1 c2 c3 c4 hvb hvg;go_wp2_with fail;go_roundw
 case rel=>exact⟨k+1,_,by omega,by go_num,rfl,HO.out,HB10.out⟩
 case measure=>simp[intOf];omega):p:=h
theorem q298025 (h:p:=by
 rcases hv8 with h|h
 ·rw[h];exact hnb
 ·rw[h];intro e;have:=hb.size;have:=Option.some.inj e;omega):p:=h
theorem q426cc0 (h:p:=by
 have HO:=Hd ho9;have HB9:=Hd hz9;have HB9x:=Hd B9;clear ho9 hz9 B9 hg9 hE hbe
 go_wp2_with (at_builtin;refine wpList_append_run rfl _ _ _ _ rfl rfl rfl hr9 ?_)
 go_roundw
 case rel=>exact⟨k+1,_,by omega,by go_num,rfl,HO.out,HB9x.out,HB9.out⟩
 case measure=>simp[intOf];omega):p:=h
theorem q0707a3 (h:p:=by
 go_enter Tryz.func237,Tryz.ntmps237
 go_wp2_with (first|(go_at_call 233;(with_reducible refine(K _).mono ?_);rintro e w' ⟨rfl,rfl⟩)|(go_at_call 234;(with_reducible refine(P _).mono ?_);rintro e w' ⟨rfl,rfl⟩))
 all_goals
  go_ret;exact ret_b (by simp[HM.out,HF.out]) HB.out):p:=h
theorem q1555f1 (h:p:=by
 refine⟨?_,h2⟩
 rcases h1 with⟨_,q',hq',he⟩|⟨h0,_⟩
 ·rw[Int.toNat_natCast,hq] at hq';cases hq';exact he
 ·exact absurd rfl h0):p:=h
theorem qcc5afb (h:p:=by
 refine bkw hK (by with_reducible assumption) (fun hHeld=>?_);clear hK K;refine tks [4,5] ?_;refine tkn [6,7] ?_;refine tkn [8,9] ?_;refine tkn [10,11] ?_;refine tkn [12,13] ?_;refine tkn [14,15] ?_;refine tkn [16,17] ?_;refine tkn [18,19] ?_;refine tks [20] ?_;exact q894f49):p:=h
theorem q35e021 (h:p:=by
 go_enter Tryz.func59,Tryz.ntmps59;go_wp2_with fail;refine hE.mono ?_;rintro e w' ⟨rfl,rfl⟩
 go_wp2
 go_ret;exact⟨ret_int HD.out.symm,rfl⟩):p:=h
theorem qf63a92 (h:p:=by
 rw[take_part,en,hfull];rw[show at_.take (i+1)++[atC at_ (i+1)]=at_.take (i+1+1) by rw[List.take_succ_eq_append_getElem hl];simp[atC,hl]];rw[show(v.length:Int)-119*i-(119:Nat)=(v.length:Int)-119*((i+1:Nat):Int) by omega];exact this):p:=h
theorem q7a1f1a (h:p:=by
 have HT:Hid (FT=VA):=Hd (by rw[HFIT.out,hall,Bool.true_and]);clear hall;go_wp2_with fail;refine CC.mono ?_;rintro e w2 ⟨rfl,hb2⟩;have HB2:=Hd (HB.out.trans (hb2.mono HB.out.size));clear hb2;go_wp2_with fail;go_ret;exact⟨by rw[HT.out];simp,HB2.out⟩):p:=h
theorem q759f51 (h:p:=by
 rw[←hX3]
 rcases ktri kp k with h|h|h
 ·exact .inr (.inr ⟨by simp[h],(cmp_lt h).2.2.1,(cmp_lt h).2.2.2,(cmp_lt2 h).2,(cmp_lt2 h).1⟩)
 ·exact .inl ⟨by simp[h,klt_irrefl],h.symm,cmp_eq k⟩
 ·exact .inr (.inl ⟨by simp[klt_asymm h],cmp_lt h⟩)):p:=h
theorem qc817f7 (h:p:=by
 refine bkw hK (by with_reducible assumption) (fun hHeld=>?_);clear hK K;refine tks [4,5] ?_;refine tks [6,7] ?_;refine tks [8,9] ?_;refine tks [10,11] ?_;refine tks [12,13] ?_;refine tks [14,15] ?_;refine tks [16,17] ?_;refine tks [18,19,20] ?_;exact q894f49):p:=h
theorem q02edb4 (h:p:=by
 go_wp2_with fail;refine CSum.mono ?_;rintro e w3 ⟨rfl,rfl⟩;have H122:=Hd h122;clear h122;have HR:Hid (R=none):=Hd (HFAIL.out (by rw[HSZ.out];have:=H122.out;simp;intros;omega));exact qd1db3c):p:=h
theorem qa5216f (h:p:=by
 have H30:=Hd h30;clear h30;go_wp2_with fail;refine CL.mono ?_;rintro e w4 ⟨rfl,rfl⟩;have HR:Hid (R=none):=Hd (HFAIL.out (by rw[HSZ.out];have:=H30.out;simp;intros;omega));go_wp2_with fail;go_ret;exact⟨by rw[HR.out];rfl,HB3.out⟩):p:=h
theorem qb8d653 (h:p:=by
 rw[hw3];exact hx2.alloc #[.string (strOf key),.string (strOf d),.bool false,.int .i64 0,.int .i64 0] 226 (b:=w2.heap.size) rfl):p:=h
theorem q432908 (h:p:=by
 go_wp2_with fail;go_ret;exact⟨ret_bool HF.out.symm,hb8⟩):p:=h
theorem q764334 (h:p:=by
 induction l with
 | nil=>simp
 | cons c r ih=>
  simp only[List.map_cons,List.sum_cons,List.length_cons,List.flatMap_cons,List.length_append];have:=hl c (by simp);have:=ih (fun x hx=>hl x (List.mem_cons_of_mem _ hx));omega):p:=h
theorem q360bd1 (h:p:=by
 rw[←hw2];exact Row.made .i64 w1 3 [p] rfl (by unfold maxLen;simp)):p:=h
theorem q931089 (h:p:=by
 go_wp2
 go_round
 case rel=>exact⟨k+1,by omega,by go_num,by rw[H.out];go_num⟩
 case measure=>simp[intOf];omega):p:=h
theorem q648619 (h:p:=by
 rw[List.map_append,List.pairwise_append];refine⟨hp,hq,fun x hx y hy=>?_⟩;obtain⟨c,hc,rfl⟩:=List.mem_map.1 hx;obtain⟨d,hd,rfl⟩:=List.mem_map.1 hy;exact klt_le ((hl c hc).2.2.1.resolve_left hk.1) (hm d hd).2.1):p:=h
theorem qf4a7ef (h:p:=by
 have HR:Hid (R=none):=Hd (by rw[←HDK.out];exact depK_none HC1.out (by rw[HC2.out,HCK.out];exact HD.out));have hdi:depI none = -1:=rfl;rw[hdi];clear hdi;exact q42d8b3):p:=h
theorem qe2b1f7 (h:p:=by
 clear h0 hbf;go_wp2_with fail;go_roundw
 case rel=>exact⟨i+1,d+1,by omega,by go_num,by go_num,by omega,HT2.out,HR.out,HBQ.out,HXQ.out.sub (fun p hp=>List.mem_cons_of_mem _ hp)⟩
 case measure=>simp[intOf];omega):p:=h
theorem q564ce6 (h:p:=by
 obtain⟨x7,hx71,hx72⟩:=Option.map_eq_some_iff.1 hy7;subst hx72;have ek:x7.1=kp:=by rw[←hkp,hip];simp[keysOf,hx71]
 rw[←ek];exact((below_via HB.out hW).cell (p:=⟨b,off+ip*4,none⟩) hbb7).trans c07):p:=h
theorem q1ccaf3 (h:p:=by
 have q1':decide (16<kl)=true:=by simp;omega
 have HE:Hid (FT=false):=Hd (by rw[HFIT.out,fitTo_bad (i:=(i+1)) (by omega) (by have h9:=HKL.out;unfold fitAt;rw[HKK.out];simp;omega)];rfl);exact q993faf):p:=h
theorem q21aee6 (h:p:=by
 rintro e w' ⟨rfl,rfl⟩
 go_wp2
 go_ret2
 exact⟨.inr ⟨by decide,rfl⟩,rfl⟩):p:=h
theorem q7b2129 (h:p:=by
 have hx:l.take k=l:=List.take_of_length_le (by rw[hll.out];exact Nat.le_refl _);rw[hx];generalize hq:k+lens l=q at *;have HQ:=Hd hq;clear hq
 go_wp2
 go_ret;exact⟨ret_int (by have:=HQ.out;omega),rfl⟩):p:=h
theorem q11f35a (h:p:=by
 go_wp2
 go_ret;exact⟨_,rfl,rfl,hgr,hnew⟩):p:=h
theorem qc97986 (h:p:=by
 obtain⟨xa,xn,xc,e⟩:=RNodeOn.open_pos hn
 injection e with e _
 injection e):p:=h
theorem qda1aad (h:p:=by
 rw[←hP]
 by_cases h:0<i
 ·exact .inl ⟨decide_eq_true (by omega),decide_eq_true (by omega),decide_eq_true h⟩
 ·exact .inr ⟨decide_eq_false (by omega),decide_eq_false (by omega),decide_eq_false h⟩):p:=h
theorem qce611d (h:p:=by
 clear hlow hLB HE;go_wp2_with fail;refine bodyPost_ret (v:=.agg #[.int .i64 p,.bool false,.slice (some ⟨b,off,none⟩) m c]) (by simp only[results,Tryz.results127];simp[go_sem,t0,t1,t2]) rfl HE1.out):p:=h
theorem qcbdfaf (h:p:=by
 have HQ:=Hd hq0;clear hq0;go_enter Tryz.func181,Tryz.ntmps181;go_wp2_with fail;refine(N _).mono ?_;rintro e w2 ⟨rfl,rfl⟩;go_wp2_with fail;go_ret;exact⟨by rw[HZ.out];rfl,Below.al (Below.refl _ _)⟩):p:=h
theorem q530833 (h:p:=by
 rw[←hX5]
 rcases ktri k hi with h|h|h
 ·exact .inr (.inl ⟨by simp[h],cmp_lt h⟩)
 ·exact .inl ⟨by simp[h,klt_irrefl],h,cmp_eq k⟩
 ·exact .inr (.inr ⟨by simp[klt_asymm h],cmp_lt h⟩)):p:=h
theorem qceefca (h:p:=by
 go_wp2_with fail
 try rw[hwA]
 refine CF.mono ?_;rintro e w2 ⟨rfl,hb2⟩;have HB2:=Hd (HB.out.trans (hb2.mono HB.out.size));clear CF hb2;go_wp2_with fail;go_ret;exact⟨by rw[HCK.out];rfl,HB2.out⟩):p:=h
theorem q2b53f5 (h:p:=by
 cases hvl:(Value.slice aC LL.length cC).ownBlock with
 | none=>rw[hvl] at hm;simp at hm;exact .inl hm
 | some g=>rw[hvl] at hm;simp at hm;rcases hm with rfl|rfl;exact .inl rfl;exact .inr rfl):p:=h
theorem q9332b0 (h:p:=by
 have hw:Region.wanted o (yielded ops a.tmps)=true:=by simp[Region.wanted,hgd]
 rw[if_pos hw];unfold Oper.wp execOp;simp only[ho,Sem.run_bind,Sem.run_pure,Result.andThen_ok,hx,hy,hr];exact h):p:=h
theorem qad665f (h:p:=by
 have:kind.toNat≠0:=fun e=>hk (UInt8.toNat_inj.1 e)
 simpa using this):p:=h
theorem q6716c5 (h:p:=by
 rw[←hw1];exact((Boxes.nil w).alloc #[.int .i64 0,.bool false,.slice none 0 0,.slice none 0 0,.slice none 0 0] 50 (b:=w.heap.size) rfl).alloc #[.int .i64 0] 32 (b:=w.heap.size+1) (by simp)):p:=h
theorem q7ce93d (h:p:=by
 have HH2:=Hd hh2;clear hh2;have HE:Hid (FT=false):=Hd (by rw[HFIT.out,fitTo_bad (i:=(i+1)) (by omega) (by unfold fitAt;rw[HKK.out,HKP.out];simp[HH.out,HH2.out])];rfl);exact q993faf):p:=h
theorem q46d063 (h:p:=by
 have HP:=Hd (klt_asymm hp);clear hp;have HE:Hid (FT=false):=Hd (by rw[HFIT.out,fitTo_bad (i:=(i+1)) (by omega) (by unfold fitAt;rw[HKK.out,HKP.out];simp[HP.out])];rfl);exact q993faf):p:=h
theorem q0da5fb (h:p:=by
 have hw:Region.wanted o (yielded ops a.tmps)=true:=by simp[Region.wanted,hgd]
 rw[if_pos hw];unfold Oper.wp execOp;simp only[ho,Sem.run_bind,Sem.run_pure,Result.andThen_ok,hx,hr];exact h):p:=h
theorem qfca252 (h:p:=by
 obtain⟨p1,p2⟩:=cmp_eq kp;have HE:Hid (FT=false):=Hd (by rw[HFIT.out,fitTo_bad (i:=(i+1)) (by omega) (by unfold fitAt;rw[HKK.out,HKP.out];simp[klt_irrefl])];rfl);exact q993faf):p:=h
theorem qbad101 (h:p:=by
 have HLO:=Hd hlo2;clear hlo2 l2;have HE:Hid (FT=false):=Hd (by rw[HFIT.out,fitTo_bad (i:=(i+1)) (by omega) (by unfold fitAt;rw[HKK.out,HKP.out];simp[HLO.out])];rfl);exact q993faf):p:=h
theorem q7dd336 (h:p:=by
 intro q hq hm9
 rcases RS.mem.1 hm9 with e|e
 ·simp at hq;rcases hq with rfl|rfl|rfl<;>simp at e<;>omega
 ·have:=hviN _ e;simp at hq;rcases hq with rfl|rfl|rfl<;>simp at this):p:=h
theorem q2848ab (h:p:=by
 go_wp2
 go_ret;exact⟨ret_int (by unfold neighF;split<;>omega),rfl⟩):p:=h
theorem qf09442 (h:p:=by
 have HB:=Hd hb;have f2:=hx.cell 0 2 rfl rfl;have d0:decide ((i:Int)<(i:Int))=false:=by simp
 clear hfit hrest hb hx;go_wp2_with fail;go_ret;exact⟨by rw[HR.out];rfl,HB.out⟩):p:=h
theorem qbdac8e (h:p:=by
 clear c0 c1 c2 c3 c4 d1 p0 hC hC7 hb7 B6 hr6 hp6 hbl6 hlq hsub;go_wp2_with fail;go_roundw
 case rel=>exact⟨k+1,by omega,by go_num,HU.out,B8,hb8⟩
 case measure=>simp[intOf];omega):p:=h
theorem qad03ad (h:p:=by
 have HK0:=Hd hk0;clear hk0;have HE:Hid (FT=false):=Hd (by rw[HFIT.out,fitTo_bad (i:=(i+1)) (by omega) (by unfold fitAt;rw[HKK.out,HKP.out];simp[HK0.out])];rfl);exact q993faf):p:=h
theorem q03511a (h:p:=by
 go_wp2_with fail;refine bodyPost_ret (v:=.agg #[.int .i64 p1,.bool l1,.slice a1 m1 d1]) (by simp only[results,Tryz.results87];simp[go_sem,t0,t1,t2]) rfl ?_;rw[HTE.out];exact HE.out):p:=h
theorem qae5e90 (h:p:=by
 rw[←hW2];exact((Boxes.nil w).alloc #[.int .i64 p,.bool lf,.slice a m c] 27 (b:=w.heap.size) rfl).alloc #[.int .i64 0,.bool false,.slice none 0 0] 27 (b:=w.heap.size+1) (by simp)):p:=h
theorem qbb2c82 (h:p:=by
 obtain⟨L,h1,_⟩:=h;refine⟨own_ge h1 b hb,?_⟩
 rcases h1.2 with⟨rfl,_⟩|⟨g,cap,cur,rfl,_,hg,_⟩
 ·cases hb
 ·cases hb;exact(Array.getElem?_eq_some_iff.1 hg).1):p:=h
theorem q639ae9 (h:p:=by
 induction l with
 | nil=>simp[sumI_nil]
 | cons x l ih=>
  have h1:=h x (by simp);have h2:=ih (fun y hy=>h y (by simp[hy]));rw[sumI_cons];simp only[List.length_cons];omega):p:=h
theorem q6568ee (h:p:=by
 rw[←hX4,strOf_toList,strOf_toList,bytes_lessT]
 by_cases h:k<lo
 ·exact .inl ⟨decide_eq_true h,decide_eq_true h⟩
 ·exact .inr ⟨decide_eq_false h,decide_eq_false h⟩):p:=h
theorem qf7016b (h:p:=by
 clear HD hfit hpos;go_enter Tryz.func168,Tryz.ntmps168;go_wp2_with fail;refine C.mono ?_;rintro e w' ⟨rfl,rfl⟩;go_wp2_with fail
 go_ret2
 exact rputPostC_bad HB.out (Below.refl _ _)):p:=h
theorem qca3992 (h:p:=by
 have HE:Hid (aptCAt at_ i=false):=Hd (by rw[HAE.out];simp[pgC];omega);go_wp2_with fail
 go_quiet (fail)
 go_wp2_with fail
 go_ret2
 exact HBAD.out _ (below_drewN HB.out nq) HE.out):p:=h
theorem q6e5b4c (h:p:=by
 go_enter Tryz.func68,Tryz.ntmps68;go_wp2_with fail;refine(refNum_any _ _ _ (by omega)).mono ?_;rintro e w1 ⟨rfl,hb⟩;rw[hN.out]
 go_wp2
 go_ret;exact⟨by rw[HT.out];rfl,hb⟩):p:=h
theorem q3c7e12 (h:p:=by
 go_enter Tryz.func125,Tryz.ntmps125
 go_wp2_with (go_at_call 150;refine(refSum_any _ _ _ _ _ hr hs).mono ?_;rintro e w' ⟨rfl,rfl⟩)
 go_ret;exact⟨ret_int hat.out.symm,rfl⟩):p:=h
theorem q857c04 (h:p:=by
 rcases e1 with e1|⟨e1,rfl⟩
 ·rw[e1];exact⟨0,m,rfl,e2,e3,by omega,by simp at e5 ⊢;omega⟩
 ·rw[e1];exact⟨0,_,rfl,e2,e3,by omega,by simp<;>omega⟩):p:=h
theorem q74289f (h:p:=by
 have HK0:=Hd hk0;clear hk0;have HE:Hid (FT=false):=Hd (by rw[HFIT.out,fitTo_bad (i:=0) (by omega) (by unfold fitAt;rw[HKK.out];simp[HK0.out])];rfl);exact q993faf):p:=h
theorem q742db7 (h:p:=by
 refine⟨?_,h2⟩
 rcases h1 with⟨h0,_⟩|⟨_,he⟩
 ·exact absurd h0 hu
 ·exact he):p:=h
theorem qb98405 (h:p:=by
 go_wp2_with fail;go_meet;exact⟨rfl,rfl⟩):p:=h
theorem q68dd29 (h:p:=by
 rintro e w' ⟨rfl,rfl⟩;refine⟨_,rfl,?_,grown_below (Below.refl _ _) _,?_⟩
 ·simp only[takeF,if_pos he];try rfl
 ·simp only[takeF,if_pos he];exact h):p:=h
theorem qd1db3c (h:p:=by
 go_wp2_with fail;go_ret;exact⟨by rw[HR.out];rfl,HB2.out⟩):p:=h
theorem q42d8b3 (h:p:=by
 go_wp2_with fail;go_ret;exact⟨by rw[HR.out];rfl,HBQ.out⟩):p:=h
theorem qfd2e77 (h:p:=by
 obtain⟨b,off,y,cs,e1,e2,e3,_,⟨pa,pn,pc,rfl,hr⟩,e6⟩:=TabR.at h hk;exact⟨b,off,y,pa,pn,pc,e1,e2,e3,e6 0 _ rfl,e6 1 _ rfl,hr⟩):p:=h
theorem q125602 (h:p:=by
 have h2:¬((0:Int)=0∧((1:Int)<1∨8<(1:Int))):=by omega
 rw[tNum,if_neg h2,show(1:Int).toNat=1 from rfl,takeF_app _ _ 1 rfl];rfl):p:=h
theorem q15d91b (h:p:=by
 have hkb:keyB e.key=false:=by simp[keyB];omega
 have HF:Hid (nodeB true l=false):=Hd (HNS.out (by rw[HST.out];simp[keyOkN,hkb]));exact q0ddb2b):p:=h
theorem q5f5823 (h:p:=by
 rw[hwe];have hk:w.heap.size≤w.heap.size:=Nat.le_refl _;exact(((((Below.refl _ _).setCell hk _).setCell hk _).setCell hk _).setCell hk _).setCell hk _):p:=h
end
open Go.RowKit
def toI (l:List UInt8):List Int:=l.map fun b=>(b.toNat:Int)
theorem toI_length (l:List UInt8):(toI l).length=l.length:=by simp[toI]
theorem toI_take (l:List UInt8) (k:Nat):(toI l).take k=toI (l.take k):=by simp[toI,List.map_take]
theorem toI_drop (l:List UInt8) (k:Nat):(toI l).drop k=toI (l.drop k):=by simp[toI,List.map_drop]
theorem toI_append (l m:List UInt8):toI l++toI m=toI (l++m):=by simp[toI]
theorem toI_get (l:List UInt8) (k:Nat):(toI l)[k]?.getD 0=((l[k]?.getD 0).toNat:Int):=by
 simp only[toI,List.getElem?_map];cases l[k]? <;> simp
def Bs (w:World) (a:Option Addr) (len cap:Nat) (l:List UInt8):Prop:=Row .u8 w a len cap (toI l)
theorem Bs.below {w w':World} {a:Option Addr} {len cap:Nat} {l:List UInt8} {B:Nat} (hB:w.heap.size≤B) (hb:Below B w w') (h:Bs w a len cap l):Bs w' a len cap l:=Row.below hB hb h
theorem Bs.drewN {w:World} {a:Option Addr} {len cap:Nat} {l:List UInt8} (h:Bs w a len cap l) (n:Nat):Bs (w.drewN n) a len cap l:=h
theorem Bs.take {w:World} {a:Option Addr} {len cap:Nat} {l:List UInt8} (j:Nat) (hj:j≤len) (h:Bs w a len cap l):Bs w a j cap (l.take j):=by
 have:=Row.take j hj h;rwa [toI_take] at this
theorem Bs.drop {w:World} {a:Option Addr} {len cap:Nat} {l:List UInt8} (j:Nat) (hj:j≤len) (h:Bs w a len cap l):Bs w (if cap=j then a else a.map (·.add (j*1))) (len-j) (cap-j) (l.drop j):=by
 have:=Row.drop j hj h;rwa [toI_drop] at this
theorem Bs.len {w:World} {a:Option Addr} {len cap:Nat} {l:List UInt8} (h:Bs w a len cap l):l.length=len:=by have:=h.1;rwa [toI_length] at this
theorem Bs.cap {w:World} {a:Option Addr} {len cap:Nat} {l:List UInt8} (h:Bs w a len cap l):len≤cap∧cap≤maxLen:=⟨h.2.1,h.2.2.1⟩
theorem Bs.cell {w:World} {a:Option Addr} {len cap:Nat} {l:List UInt8} (h:Bs w a len cap l) {k:Nat} (hk:k<len) :
 ∃b off,a=some ⟨b,off,none⟩∧b<w.heap.size∧∀i,i<len→w.cell? ⟨b,off+i,none⟩=some (.int .u8 ((l[i]?.getD 0).toNat:Int)):=by
 rcases h.2.2.2.2 with h0|⟨b,off,e,hb,hc⟩
 ·omega
 ·exact⟨b,off,e,hb,fun i hi=>by rw[hc i hi,toI_get]⟩
theorem Bs.of_own {w:World} {base:Nat} {e:TypeId} {v:Value} {n:Nat} {l:List UInt8} (h:w.ownsRow base e 1 v n ((toI l).map (Value.int .u8))) :
 ∃a cap,v=.slice a n cap∧Bs w a n cap l:=Row.of_own h
theorem Row.grown {k:IntKind} {w w':World} {a:Option Addr} {len cap:Nat} {l:List Int} {row:Option Nat} (hg:w.grownBy w' row) (hne:∀b off,len≠0→a=some ⟨b,off,none⟩→row≠some b) (h:Row k w a len cap l):Row k w' a len cap l:=by
 obtain⟨h1,h2,h3,hn,h4⟩:=h;refine⟨h1,h2,h3,hn,?_⟩
 rcases h4 with h4|⟨b,off,h5,h6,h7⟩
 ·exact .inl h4
 ·by_cases h0:len=0
  ·exact .inl h0
  ·refine .inr ⟨b,off,h5,by have:=hg.size;omega,fun i hi=>?_⟩
   rw[←h7 i hi];exact World.cell?_of_block (hg.block b h6 (fun e=>hne b off h0 h5 e.symm))
theorem Bs.grown {w w':World} {a:Option Addr} {len cap:Nat} {l:List UInt8} {row:Option Nat} (hg:w.grownBy w' row) (hne:∀b off,len≠0→a=some ⟨b,off,none⟩→row≠some b) (h:Bs w a len cap l):Bs w' a len cap l:=Row.grown hg hne h
def strOf (l:List UInt8):ByteArray:=⟨l.toArray⟩
theorem strOf_list (l:List UInt8):(strOf l).data.toList=l:=by simp[strOf]
theorem strOf_size (l:List UInt8):(strOf l).size=l.length:=by simp[strOf,ByteArray.size]
theorem strOf_extract (l:List UInt8) (i j:Nat):(strOf l).extract i j=strOf ((l.drop i).take (j-i)):=by
 apply ByteArray.ext;simp[strOf,ByteArray.data_extract,List.extract_eq_take_drop]
theorem strOf_append (l m:List UInt8):strOf l++strOf m=strOf (l++m):=by
 apply ByteArray.ext;simp[strOf,ByteArray.data_append]
theorem strOf_toList (l:List UInt8):(strOf l).toList=l:=by
 have h:=ByteArray.toList_loop_eq (strOf l) (strOf l).size 0 [] (by omega) (by omega);show ByteArray.toList.loop (strOf l) 0 []=l;rw[h,strOf_list];simp
theorem strOf_get (l:List UInt8) (k:Nat) (h:k<l.length):(strOf l)[k]'(by rw[strOf_size];exact h)=l[k]?.getD 0:=by
 simp[strOf,ByteArray.getElem_eq_getElem_data,h]
theorem conv_string {P:Program} {w:World} {src e dst:TypeId} (hs:P.underlying src=some (.slice e)) (he:P.underlying e=some (.int .u8)) (hd:P.underlying dst=some .string)
 {a:Option Addr} {len cap:Nat} {l:List UInt8} (h:Bs w a len cap l):(convert src dst (.slice a len cap)).run P w=.ok (.string (strOf l)) w:=by
 have hlen:=h.len;cases a with
 | none=>
  have hc:=h.2.2.2.1 rfl;have:len=0:=by have:=h.2.1;omega
  subst hc this;obtain rfl:l=[]:=List.eq_nil_of_length_eq_zero hlen;exact Lib.run_convert_nil_bytes w src dst e 0 hs he hd
 | some x=>
  subst hlen;refine run_convert_bytes_back w src dst e x cap l hs he hd fun j hj=>?_
  obtain⟨b,off,h5,_,h7⟩:=h.cell hj;cases h5;have e:(⟨b,off,none⟩:Addr).add j=⟨b,off+j,none⟩:=by unfold Addr.add;split<;>simp_all
  rw[e,h7 j hj];simp[hj]
theorem made_list (v:Value) (n:Nat):(madeCells #[v] n).toList=List.replicate n v:=by
 simp only[madeCells];apply List.ext_getElem
 ·simp
 ·intro i h1 h2
  simp[Nat.mod_one]
theorem strCells_strOf (l:List UInt8):Lib.strCells (strOf l)=(toI l).map (Value.int .u8):=by
 simp[Lib.strCells,strOf,toI]
def RetStr (w:World) (l:List UInt8) (e:Ending) (w':World):Prop:=e=.returned (.string (strOf l))∧Below w.heap.size w w'
theorem conv_one {P:Program} {W:World} {src e dst t:TypeId} (hs:P.underlying src=some (.slice e)) (he:P.underlying e=some (.int .u8)) (hd:P.underlying dst=some .string) (b:UInt8) :
 (convert src dst (.slice (some ⟨W.heap.size,0,none⟩) 1 1)).run P (W.alloc (.cells #[.int .u8 (b.toNat:Int)] t))=.ok (.string (strOf [b])) (W.alloc (.cells #[.int .u8 (b.toNat:Int)] t)):=
 conv_string hs he hd (show Bs _ _ _ _ [b] from Row.made .u8 W t [(b.toNat:Int)] rfl (by unfold maxLen;simp))
def OwnBytes (t:TypeId) (w:World) (l:List UInt8) (e:Ending) (w':World):Prop:=
 ∃v,e=.returned v∧w'.ownsRow w.heap.size t 1 v l.length ((toI l).map (Value.int .u8))∧Below w.heap.size w w'
theorem grown_setCell (w:World) (a:Addr) (u:Value):w.grownBy (w.setCell a u) (some a.block):=
 ⟨rfl,rfl,rfl,by simp[World.setCell],fun k _ hne=>Below.heap_setCell w a u k (fun e=>hne (by rw[e]))⟩
theorem grown_trans {a b c:World} {row:Option Nat} (h:a.grownBy b row) (k:b.grownBy c row):a.grownBy c row:=
 ⟨by rw[k.os,h.os],by rw[k.tape,h.tape],by rw[k.output,h.output],Nat.le_trans h.size k.size,fun i hi hne=>by rw[k.block i (Nat.lt_of_lt_of_le hi h.size) hne,h.block i hi hne]⟩
theorem grown_below {a b:World} (h:Below a.heap.size a b) (row:Option Nat):a.grownBy b row:=⟨h.os,h.tape,h.output,h.size,fun k hk _=>h.block k hk⟩
theorem heap_setCell_at {w:World} {g:Nat} {cur:Array Value} {e:TypeId} (j:Nat) (u:Value) (hg:w.heap[g]? = some (.cells cur e (0,0))) :
 (w.setCell ⟨g,j,none⟩ u).heap[g]? = some (.cells (cur.setIfInBounds j u) e (0,0)):=heap_setCell_same w g j cur e u hg
theorem or256 (x c:Nat) (hx:x<72057594037927936) (hc:c<256):bits .or .u64 ((x:Int)*256) (c:Int)=((x*256+c:Nat):Int):=by
 have h:=u64_or_nat (x*256) c (by omega) (by omega);have e:x*256 ||| c=x*256+c:=by
  have:=Nat.shiftLeft_add_eq_or_of_lt (i:=8) (b:=c) (by omega) x;rw[Nat.shiftLeft_eq] at this;exact this.symm
 rw[e] at h;rw[←h];congr 1
theorem own_lt {w:World} {base:Nat} {e:TypeId} {size:Nat} {v:Value} {n:Nat} {xs:List Value} (h:w.ownsRow base e size v n xs):∀k,v.ownBlock=some k→k<w.heap.size:=by
 intro k hk
 rcases h.2 with⟨rfl,rfl⟩|⟨g,cap,cur,rfl,_,hg,_⟩
 ·cases hk
 ·cases hk;exact(Array.getElem?_eq_some_iff.1 hg).1
theorem Bs.own {w:World} {base:Nat} {e:TypeId} {a:Option Addr} {n cap:Nat} {l:List UInt8} (h:w.ownsRow base e 1 (.slice a n cap) n ((toI l).map (Value.int .u8))):Bs w a n cap l:=by
 obtain⟨a',cap',e1,e2⟩:=Bs.of_own h;cases e1;exact e2
theorem own_slice {w:World} {base:Nat} {e:TypeId} {size:Nat} {v:Value} {n:Nat} {xs:List Value} (h:w.ownsRow base e size v n xs):∃a cap,v=.slice a n cap∧n≤cap∧cap≤maxLen∧(0<n→∃g,a=some ⟨g,0,none⟩):=by
 rcases h.2 with⟨rfl,rfl⟩|⟨g,cap,cur,rfl,_,_,h1,h2,_⟩
 ·exact⟨none,0,rfl,Nat.le_refl _,by unfold maxLen;omega,fun h=>by omega⟩
 ·exact⟨_,cap,rfl,h1,h2,fun _=>⟨g,rfl⟩⟩
def beBytes (x:Nat):Nat→List UInt8
 | 0=>[]
 | n+1=>beBytes (x / 256) n++[UInt8.ofNat x]
theorem beBytes_length (x n:Nat):(beBytes x n).length=n:=by
 induction n generalizing x with
 | zero=>rfl
 | succ n ih=>simp[beBytes,ih]
def beVal (l:List UInt8):Nat:=l.foldl (fun x b=>x*256+b.toNat) 0
theorem beVal_nil:beVal []=0:=rfl
theorem beVal_snoc (l:List UInt8) (b:UInt8):beVal (l++[b])=beVal l*256+b.toNat:=by simp[beVal]
theorem beVal_lt (l:List UInt8):beVal l<256 ^ l.length:=by
 have key:∀(l:List UInt8) (a:Nat),l.foldl (fun x b=>x*256+b.toNat) a<(a+1)*256 ^ l.length:=by
  intro l
  induction l with
  | nil=>intro a;simp
  | cons b l ih=>
   intro a;have h:=ih (a*256+b.toNat);have hb:=b.toNat_lt;simp only[List.foldl_cons,List.length_cons,Nat.pow_succ]
   calc _<(a*256+b.toNat+1)*256 ^ l.length:=h
    _≤((a+1)*256)*256 ^ l.length:=Nat.mul_le_mul_right _ (by omega)
    _=(a+1)*(256 ^ l.length*256):=by rw[Nat.mul_assoc,Nat.mul_comm 256]
 have h:=key l 0;simp at h;exact h
theorem beBytes_cons (x n:Nat):beBytes x (n+1)=UInt8.ofNat (x / 256 ^ n)::beBytes x n:=by
 induction n generalizing x with
 | zero=>simp[beBytes]
 | succ n ih=>
  rw[beBytes,ih (x / 256)];simp only[List.cons_append];rw[Nat.div_div_eq_div_mul,Nat.pow_succ,Nat.mul_comm 256]
  rfl
theorem be_set (x n k:Nat) (hk:k<n):(List.replicate (n-k) 0++beBytes x k).set (n-1-k) (UInt8.ofNat (x / 256 ^ k))=List.replicate (n-(k+1)) 0++beBytes x (k+1):=by
 obtain⟨m,rfl⟩:∃m,n=k+1+m:=⟨n-k-1,by omega⟩
 have e1:k+1+m-k=m+1:=by omega
 have e2:k+1+m-1-k=m:=by omega
 have e3:k+1+m-(k+1)=m:=by omega
 rw[e1,e2,e3,beBytes_cons,List.replicate_succ',List.append_assoc,List.set_append_right _ _ (by simp),List.length_replicate,Nat.sub_self]
 rfl
theorem be_at (x n k:Nat) (hk:k<n):(List.replicate (n-k) (0:UInt8)++beBytes x k)[n-1-k]? = some 0:=by
 rw[List.getElem?_append_left (by simp;omega),List.getElem?_replicate,if_pos (by omega)]
theorem be_byte (x k:Nat):((x:Int) / 2 ^ (8*k) % 256)=((UInt8.ofNat (x / 256 ^ k)).toNat:Int):=by
 have e:(256:Nat) ^ k=2 ^ (8*k):=by rw[Nat.pow_mul]
 rw[UInt8.toNat_ofNat',e,Int.natCast_emod,Int.natCast_ediv,Int.natCast_pow]
 rfl
def numF (x:Int) (size:Int):List UInt8:=if size<1∨8<size then [] else beBytes x.toNat size.toNat
def textF (l:List UInt8):List UInt8:=UInt8.ofNat (l.take 255).length::l.take 255
structure TSt where
 l:List UInt8
 e:Int
deriving DecidableEq
def takeF (s:TSt) (n:Nat):List UInt8×TSt:=
 if s.e≠0 then ([],s) else if s.l.length<n then ([],{ s with e:=10 }) else (s.l.take n,{ s with l:=s.l.drop n })
def tNum (s:TSt) (size:Int):Nat×TSt:=
 if s.e=0∧(size<1∨8<size) then (0,{ s with e:=1 }) else (beVal (takeF s size.toNat).1,(takeF s size.toNat).2)
def tText (s:TSt):List UInt8×TSt:=takeF (tNum s 1).2 (tNum s 1).1
def tRest (s:TSt):List UInt8×TSt:=takeF s s.l.length
def tDone (s:TSt):Int:=if s.e≠0∨s.l.length=0 then s.e else 11
open Go.RowKit
theorem info_u8:(Tryz.prog.info? 5).map (fun i=>(i.zero,i.size,i.bytes))=some (some (.int .u8 0),1,1):=by kernel_rfl
theorem num_bad (x size:Int) (w:World) (h:size<1∨8<size) :
 Calls Tryz.prog 64 #[.int .u64 x,.int .i64 size] w fun e w'=>e=.returned (.slice none 0 0)∧w=w':=by
 rcases h with h|h
 ·go_enter Tryz.func64,Tryz.ntmps64
  exact q72c811
 ·have h':¬size<1:=by omega
  go_enter Tryz.func64,Tryz.ntmps64;exact q72c811
theorem num_ok (x:Nat) (n:Nat) (w:World) (_hx:x<18446744073709551616) (h1:1≤n) (h8:n≤8) :
 Calls Tryz.prog 64 #[.int .u64 x,.int .i64 n] w (OwnBytes 5 w (beBytes x n)):=by
 obtain⟨i0,hi,hz0,hz1,hz2⟩:=info_parts info_u8;go_enter Tryz.func64,Tryz.ntmps64
 go_wp2_with (at_make;refine wpList_make_full _ rfl _ _ 42 rfl w.heap.size 5 i0 _ 1 Tryz.underlying42 hi hz0 hz1 .i64 .i64 _ _ n rfl rfl rfl rfl (by rw[hz2];omega) (by unfold maxLen;omega) (Nat.le_refl _) ?_)
 intro w1 hown hg;have hB:=(Below.refl w.heap.size w).grown hg (Nat.le_refl _) (fun k e=>by cases e);clear hg;have hown':w1.ownsRow w.heap.size 5 1 (.slice (some ⟨w.heap.size,0,none⟩) n n) n ((toI (List.replicate (n-0) 0++beBytes x 0)).map (Value.int .u8)):=by
  simp only[made_list] at hown;simpa[beBytes,toI] using hown
 clear hown
 go_wp2
 go_loopw [17] (fun i wr=>∃k:Nat,k≤n∧i=.int .i64 k∧wr.ownsRow w.heap.size 5 1 (.slice (some ⟨w.heap.size,0,none⟩) n n) n ((toI (List.replicate (n-k) 0++beBytes x k)).map (Value.int .u8))∧Below w.heap.size w wr) (fun i _=>n-(intOf i).toNat)
 case atStart=>exact⟨0,Nat.zero_le _,rfl,hown',hB⟩
 case round=>
  obtain⟨k,hk,rfl,hr,hb⟩:=hrel
  by_cases hlt:k<n
  ·have hc:=hr.cellAt (n-1-k) (by omega)
   have hf:=hr.frozenAt (n-1-k);have hst:=hr.stored (n-1-k) (.int .u8 ((x:Int) / 2 ^ (8*k) % 256));have hv:=congrArg (Value.int .u8) (be_byte x k);have hlist:((toI (List.replicate (n-k) 0++beBytes x k)).map (Value.int .u8)).set (n-1-k) (.int .u8 ((x:Int) / 2 ^ (8*k) % 256))=(toI (List.replicate (n-(k+1)) 0++beBytes x (k+1))).map (Value.int .u8):=by
    rw[hv,←be_set x n k hlt];simp only[toI,List.map_set]
   rw[hlist] at hst;have hst:=hst.1;clear hlist hv;rw[List.getElem?_map,toI,List.getElem?_map,be_at x n k hlt] at hc;have hc':wr.cell? ⟨w.heap.size,n-1-k,none⟩=some (.int .u8 0):=hc;clear hc;have HS:=Hd hst;clear hst
   go_wp2
   go_roundw
   case rel=>exact⟨k+1,by omega,by go_num,HS.out,hb.setCell (Nat.le_refl _) _⟩
   case measure=>simp[intOf];omega
  ·obtain rfl:k=n:=by omega
   have hl:=Hd (beBytes_length x k);have hr':wr.ownsRow w.heap.size 5 1 (.slice (some ⟨w.heap.size,0,none⟩) k k) (beBytes x k).length ((toI (beBytes x k)).map (Value.int .u8)):=by
    rw[hl.out];simpa using hr
   go_wp2
   go_ret;exact⟨_,rfl,hr',hb⟩
theorem num_any (x size:Int) (w:World) (hx:0≤x∧x<18446744073709551616) :
 Calls Tryz.prog 64 #[.int .u64 x,.int .i64 size] w (OwnBytes 5 w (numF x size)):=by
 by_cases h:size<1∨8<size
 ·refine(num_bad x size w h).mono ?_
  rintro e w' ⟨rfl,rfl⟩;rw[numF,if_pos h];exact⟨_,rfl,⟨rfl,.inl ⟨rfl,rfl⟩⟩,Below.refl _ _⟩
 ·rw[numF,if_neg h]
  obtain⟨y,rfl⟩:=Int.eq_ofNat_of_zero_le hx.1;obtain⟨n,rfl⟩:=Int.eq_ofNat_of_zero_le (show 0≤size by omega);exact num_ok y n w (by omega) (by omega) (by omega)
theorem refNum_bad (x size:Int) (w:World) (h:size<1∨8<size) :
 Calls Tryz.prog 67 #[.int .u64 x,.int .i64 size] w fun e w'=>e=.returned (.string (strOf []))∧w=w':=by
 rcases h with h|h
 ·go_enter Tryz.func67,Tryz.ntmps67
  exact q72c811
 ·have h':¬size<1:=by omega
  go_enter Tryz.func67,Tryz.ntmps67;exact q72c811
theorem refNum_ok (x:Nat) (n:Nat) (w:World) (hx:x<18446744073709551616) (h1:1≤n) (h8:n≤8) :
 Calls Tryz.prog 67 #[.int .u64 x,.int .i64 n] w (RetStr w (beBytes x n)):=by
 go_enter Tryz.func67,Tryz.ntmps67
 go_wp2
 go_loopw [0,5,6] (fun xx s i wr=>∃k:Nat,k≤n∧i=.int .i64 k∧xx=.int .u64 ((x / 256 ^ k:Nat):Int)∧s=.string (strOf (beBytes x k))∧Below w.heap.size w wr) (fun _ _ i _=>n-(intOf i).toNat)
 case atStart=>exact⟨0,Nat.zero_le _,rfl,by simp,rfl,Below.refl _ _⟩
 case round=>
  obtain⟨k,hk,rfl,rfl,rfl,hb⟩:=hrel
  by_cases hlt:k<n
  ·have hdiv:=Hd (show x / 256 ^ (k+1)=x / 256 ^ k / 256 by rw[Nat.pow_succ,Nat.div_div_eq_div_mul])
   have hle:x / 256 ^ k≤x:=Nat.div_le_self _ _;have hcons:=Hd (beBytes_cons x k);generalize x / 256 ^ k=y at *;have hby:((y:Int) % 256)=((UInt8.ofNat y).toNat:Int):=by rw[UInt8.toNat_ofNat'];simp
   have hcv:=conv_one (W:=wr) (t:=5) Tryz.underlying42 Tryz.underlying5 Tryz.underlying9 (UInt8.ofNat y);rw[←hby] at hcv;have HB:=Hd hby
   clear hby
   have hap:=strOf_append [UInt8.ofNat y] (beBytes x k);have hsz:(strOf [UInt8.ofNat y]).size+(strOf (beBytes x k)).size≤9223372036854775807:=by
    rw[strOf_size,strOf_size,beBytes_length];simp;omega
   go_wp2
   go_roundw
   case rel=>exact⟨k+1,by omega,by go_num,by rw[hdiv.out];go_num,by rw[hcons.out],hb.alloc hb.size _⟩
   case measure=>simp[intOf];omega
  ·obtain rfl:k=n:=by omega
   go_wp2
   go_ret;exact⟨rfl,hb⟩
theorem refNum_any (x size:Int) (w:World) (hx:0≤x∧x<18446744073709551616) :
 Calls Tryz.prog 67 #[.int .u64 x,.int .i64 size] w (RetStr w (numF x size)):=by
 by_cases h:size<1∨8<size
 ·refine(refNum_bad x size w h).mono ?_
  rintro e w' ⟨rfl,rfl⟩;rw[numF,if_pos h];exact⟨rfl,Below.refl _ _⟩
 ·rw[numF,if_neg h]
  obtain⟨y,rfl⟩:=Int.eq_ofNat_of_zero_le hx.1;obtain⟨n,rfl⟩:=Int.eq_ofNat_of_zero_le (show 0≤size by omega);exact refNum_ok y n w (by omega) (by omega) (by omega)
theorem textF_eq (l:List UInt8):textF l=[UInt8.ofNat (l.take 255).length]++l.take 255:=rfl
theorem numF_one (n:Nat) (_hn:n≤255):numF (n:Int) 1=[UInt8.ofNat n]:=by
 rw[numF,if_neg (by omega)];simp[beBytes]
theorem refText_any (l:List UInt8) (w:World) (hl:l.length≤9223372036854775807) :
 Calls Tryz.prog 68 #[.string (strOf l)] w (RetStr w (textF l)):=by
 have hsz:=strOf_size l;have hx:=strOf_extract l 0 255;rw[List.drop_zero,Nat.sub_zero] at hx;have ht:(l.take 255).length≤255:=by simp;omega
 have hT:=textF_eq l;have hall:l.length≤255→l.take 255=l:=fun h=>List.take_of_length_le h
 generalize l.take 255=t at *;have hN:=Hd (numF_one t.length ht);have HT:=Hd hT;have HALL:=Hd hall;clear hT hall;have hap:=strOf_append [UInt8.ofNat t.length] t;have hlen:=strOf_size t;have hbnd:(strOf [UInt8.ofNat t.length]).size+(strOf t).size≤9223372036854775807:=by
  rw[strOf_size,strOf_size];simp;omega
 by_cases h255:255<l.length
 ·clear HALL
  exact q6e5b4c
 ·obtain rfl:=HALL.out (by omega)
  exact q6e5b4c
theorem text_any (l:List UInt8) (w:World) (hl:l.length≤9223372036854775807) :
 Calls Tryz.prog 65 #[.string (strOf l)] w (OwnBytes 5 w (textF l)):=by
 obtain⟨i0,hi,hz0,hz1,hz2⟩:=info_parts info_u8;have hsz:=strOf_size l;have hx:=strOf_extract l 0 (min l.length 255);have htk:(l.drop 0).take (min l.length 255-0)=l.take 255:=by
  rw[List.drop_zero,Nat.sub_zero]
  by_cases h:l.length≤255
  ·rw[Nat.min_eq_left h,List.take_length,List.take_of_length_le h]
  ·rw[Nat.min_eq_right (by omega)]
 rw[htk] at hx;clear htk;have ht:(l.take 255).length≤255:=by simp;omega
 have HT:=Hd (textF_eq l);generalize l.take 255=t at *;have hlen:=strOf_size t;have hmin:min l.length 255=255∨min l.length 255=l.length:=by omega
 have hcase:(255<l.length∧min l.length 255=255)∨(¬255<l.length∧min l.length 255=l.length):=by omega
 clear hmin
 rcases hcase with⟨h255,e⟩|⟨h255,e⟩
 all_goals
  rw[e] at hx;clear e;go_enter Tryz.func65,Tryz.ntmps65
  go_wp2_with (at_builtin;refine Lib.wpList_append_own_string _ rfl _ _ 42 9 rfl w.heap.size 5 i0 Tryz.underlying42 Tryz.underlying9 hi hz0 hz1 hz2 _ 1 [.int .u8 (t.length:Int)] rfl (own_made .u8 w 5 [(t.length:Int)] rfl (Nat.le_refl _) (by unfold maxLen;simp)) (strOf t) rfl (by rw[hlen];unfold maxLen;omega) (by rw[hlen];omega) (by simp) ?_)
  intro v2 w2 hown hg _;have hB:=((Below.refl w.heap.size w).alloc (Nat.le_refl _) (.cells #[.int .u8 (t.length:Int)] 5)).grown hg (by simp) (fun k e=>by cases e;exact Nat.le_refl _);clear hg;have hown':w2.ownsRow w.heap.size 5 1 v2 (textF l).length ((toI (textF l)).map (Value.int .u8)):=by
   rw[HT.out];have e:((UInt8.ofNat t.length).toNat:Int)=(t.length:Int):=by rw[UInt8.toNat_ofNat'];omega
   have e2:([UInt8.ofNat t.length]++t).length=1+t.length:=by simp;omega
   rw[strCells_strOf] at hown;rw[e2,←toI_append,List.map_append];have e3:toI [UInt8.ofNat t.length]=[(t.length:Int)]:=by simp only[toI,List.map_cons,List.map_nil,e]
   rw[e3];exact hown
  clear hown
  go_wp2
  go_ret;exact⟨_,rfl,hown',hB⟩
def stepB (x:Nat):Nat:=if x % 2=1 then (x / 2) ^^^ 3988292384 else x / 2
def steps:Nat→Nat→Nat
 | 0,x=>x
 | n+1,x=>steps n (stepB x)
theorem steps_add (m n x:Nat):steps (m+n) x=steps n (steps m x):=by
 induction m generalizing x with
 | zero=>simp[steps]
 | succ m ih=>rw[show m+1+n=(m+n)+1 by omega];simp only[steps];exact ih _
theorem steps_succ (n x:Nat):steps (n+1) x=stepB (steps n x):=by
 rw[steps_add n 1];rfl
def stepC (x:Nat) (b:UInt8):Nat:=steps 8 (x ^^^ b.toNat)
def crcX (x:Nat) (l:List UInt8):Nat:=l.foldl stepC x
def crcOn (sum:Nat) (l:List UInt8):Nat:=4294967295-crcX (4294967295-sum) l
def crcOf (l:List UInt8):Nat:=crcOn 0 l
theorem xor_lt {a b:Nat} (ha:a<4294967296) (hb:b<4294967296):a ^^^ b<4294967296:=Nat.xor_lt_two_pow (n:=32) ha hb
theorem stepB_lt {x:Nat} (h:x<4294967296):stepB x<4294967296:=by
 unfold stepB;split
 ·exact xor_lt (by omega) (by omega)
 ·omega
theorem steps_lt (n:Nat) {x:Nat} (h:x<4294967296):steps n x<4294967296:=by
 induction n generalizing x with
 | zero=>exact h
 | succ n ih=>exact ih (stepB_lt h)
theorem stepC_lt {x:Nat} (h:x<4294967296) (b:UInt8):stepC x b<4294967296:=steps_lt 8 (xor_lt h (by have:=b.toNat_lt;omega))
theorem crcX_lt (l:List UInt8) {x:Nat} (h:x<4294967296):crcX x l<4294967296:=by
 induction l generalizing x with
 | nil=>exact h
 | cons b l ih=>exact ih (stepC_lt h b)
theorem crcOn_lt (sum:Nat) (l:List UInt8):crcOn sum l<4294967296:=by unfold crcOn;omega
theorem crcX_snoc (x:Nat) (l:List UInt8) (b:UInt8):crcX x (l++[b])=stepC (crcX x l) b:=by simp[crcX]
theorem testBit_poly (x:Nat) (h:x<2147483648):(x ^^^ 3988292384).testBit 31=true:=by
 rw[Nat.testBit_xor,Nat.testBit_lt_two_pow (show x<2 ^ 31 from h)]
 decide
theorem stepB_inj {x y:Nat} (hx:x<4294967296) (hy:y<4294967296) (h:stepB x=stepB y):x=y:=by
 have bit:∀z,z<4294967296→(stepB z).testBit 31=decide (z % 2=1):=by
  intro z hz;unfold stepB;split
  ·rename_i h1;rw[testBit_poly _ (by omega)];simp[h1]
  ·rename_i h1;rw[Nat.testBit_lt_two_pow (show z / 2<2 ^ 31 by omega)];simp[h1]
 have hb:=bit x hx;rw[h,bit y hy] at hb;have hp:(x % 2=1↔y % 2=1):=by
  constructor
  ·intro e;by_cases e':y % 2=1
   ·exact e'
   ·simp[e,e'] at hb
  ·intro e;by_cases e':x % 2=1
   ·exact e'
   ·simp[e,e'] at hb
 unfold stepB at h
 by_cases e:x % 2=1
 ·rw[if_pos e,if_pos (hp.1 e)] at h
  have h2:x / 2=y / 2:=by
   have:=congrArg (· ^^^ 3988292384) h;simpa[Nat.xor_assoc] using this
  have:=hp.1 e;omega
 ·rw[if_neg e,if_neg (fun e'=>e (hp.2 e'))] at h
  have:¬y % 2=1:=fun e'=>e (hp.2 e')
  omega
theorem steps_inj (n:Nat) {x y:Nat} (hx:x<4294967296) (hy:y<4294967296) (h:steps n x=steps n y):x=y:=by
 induction n generalizing x y with
 | zero=>exact h
 | succ n ih=>exact stepB_inj hx hy (ih (stepB_lt hx) (stepB_lt hy) h)
theorem xor_cancel {a b c:Nat} (h:a ^^^ c=b ^^^ c):a=b:=by
 have:=congrArg (· ^^^ c) h;simpa[Nat.xor_assoc] using this
theorem stepC_inj {x y:Nat} {b:UInt8} (hx:x<4294967296) (hy:y<4294967296) (h:stepC x b=stepC y b):x=y:=
 xor_cancel (steps_inj 8 (xor_lt hx (by have:=b.toNat_lt;omega)) (xor_lt hy (by have:=b.toNat_lt;omega)) h)
theorem stepC_byte {x:Nat} {b c:UInt8} (hx:x<4294967296) (h:stepC x b=stepC x c):b=c:=by
 have h1:=steps_inj 8 (xor_lt hx (by have:=b.toNat_lt;omega)) (xor_lt hx (by have:=c.toNat_lt;omega)) h;rw[Nat.xor_comm x,Nat.xor_comm x] at h1;exact UInt8.toNat_inj.1 (xor_cancel h1)
theorem crcX_inj (l:List UInt8) {x y:Nat} (hx:x<4294967296) (hy:y<4294967296) (h:crcX x l=crcX y l):x=y:=by
 induction l generalizing x y with
 | nil=>exact h
 | cons b l ih=>exact stepC_inj hx hy (ih (stepC_lt hx b) (stepC_lt hy b) h)
theorem crcOf_turned (a r:List UInt8) {b c:UInt8} (h:crcOf (a++b::r)=crcOf (a++c::r)):b=c:=by
 have hl:=crcX_lt a (x:=4294967295-0) (by omega);have e:∀d:UInt8,crcX (4294967295-0) (a++d::r)=crcX (stepC (crcX (4294967295-0) a) d) r:=by intro d;simp[crcX]
 have h1:=crcX_lt r (stepC_lt hl b);have h2:=crcX_lt r (stepC_lt hl c);unfold crcOf crcOn at h;rw[e b,e c] at h;exact stepC_byte hl (crcX_inj r (stepC_lt hl b) (stepC_lt hl c) (by omega))
def half:List Nat:=[0,498536548,997073096,651767980,1994146192,1802195444,1303535960,1342533948,3988292384,4027552580,3604390888,3412177804,2607071920,2262029012,2685067896,3183342108]
theorem half_eq (k:Nat) (h:k<16):half[k]? = some (steps 4 k):=by
 have:∀k:Fin 16,half[k.val]? = some (steps 4 k.val):=by decide
 exact this ⟨k,h⟩
theorem stepB_xor (a b:Nat) (ha:a % 2=0):stepB (a ^^^ b)=a / 2 ^^^ stepB b:=by
 have hp:(a ^^^ b) % 2=b % 2:=by
  have:=Nat.xor_mod_two_pow (a:=a) (b:=b) (n:=1);simp only[Nat.pow_one] at this;rw[this,ha,Nat.zero_xor]
  try omega
 have hd:(a ^^^ b) / 2=a / 2 ^^^ b / 2:=by
  have:=Nat.shiftRight_xor_distrib (a:=a) (b:=b) (i:=1);simpa[Nat.shiftRight_eq_div_pow] using this
 unfold stepB;rw[hp,hd]
 by_cases hb:b % 2=1
 ·rw[if_pos hb,if_pos hb,Nat.xor_assoc]
 ·rw[if_neg hb,if_neg hb]
theorem steps_xor (n a b:Nat) (ha:a % 2 ^ n=0):steps n (a ^^^ b)=a / 2 ^ n ^^^ steps n b:=by
 induction n generalizing a b with
 | zero=>simp[steps]
 | succ n ih=>
  have h2:a % 2=0:=by
   have:2 ∣ a:=Nat.dvd_trans (by rw[Nat.pow_succ];exact Nat.dvd_mul_left 2 _) (Nat.dvd_of_mod_eq_zero ha);omega
  have h3:a / 2 % 2 ^ n=0:=by
   have hd:=Nat.dvd_of_mod_eq_zero ha;rw[Nat.pow_succ] at hd;obtain⟨q,rfl⟩:=hd;rw[Nat.mul_comm (2 ^ n) 2,Nat.mul_assoc,Nat.mul_div_cancel_left _ (by decide),Nat.mul_mod_right]
  simp only[steps];rw[stepB_xor a b h2,ih (a / 2) (stepB b) h3,Nat.div_div_eq_div_mul,Nat.pow_succ,Nat.mul_comm 2]
theorem steps_four (x:Nat):steps 4 x=x / 16 ^^^ (half[x % 16]?.getD 0):=by
 have e:x=16*(x / 16) ^^^ x % 16:=by
  have h1:16*(x / 16) ^^^ x % 16=16*(x / 16)+x % 16:=by
   have hb:x % 16<2 ^ 4:=by omega
   apply Nat.eq_of_testBit_eq;intro j;have e1:=Nat.testBit_two_pow_mul_add (x / 16) hb j;have e2:(2 ^ 4*(x / 16)).testBit j=(decide (j≥4) && (x / 16).testBit (j-4)):=Nat.testBit_two_pow_mul ..;rw[Nat.testBit_xor];show((2 ^ 4*(x / 16)).testBit j ^^ (x % 16).testBit j)=(2 ^ 4*(x / 16)+x % 16).testBit j;rw[e1,e2]
   by_cases hj:j<4
   ·have h4:¬j≥4:=by omega
    rw[if_pos hj];simp[h4]
   ·have h0:(x % 16).testBit j=false:=Nat.testBit_lt_two_pow (Nat.lt_of_lt_of_le hb (Nat.pow_le_pow_right (by decide) (by omega)))
    have h4:j≥4:=by omega
    rw[if_neg hj,h0];simp[h4]
  rw[h1];omega
 have h2:=steps_xor 4 (16*(x / 16)) (x % 16) (by omega);rw[←e] at h2;rw[h2,half_eq (x % 16) (by omega)];simp
theorem not32 (s:Nat) (h:s<4294967296):4294967295 ^^^ s=4294967295-s:=by
 apply Nat.eq_of_testBit_eq;intro i;have e:=Nat.testBit_two_pow_sub_succ (n:=32) h i;have e1:2 ^ 32-(s+1)=4294967295-s:=by omega
 have e2:=Nat.testBit_two_pow_sub_one 32 i;rw[e1] at e;rw[Nat.testBit_xor,e];show((2 ^ 32-1).testBit i ^^ s.testBit i)=_;rw[e2]
 by_cases hi:i<32
 ·simp[hi]
 ·have:s.testBit i=false:=Nat.testBit_lt_two_pow (Nat.lt_of_lt_of_le h (show 2 ^ 32≤2 ^ i from Nat.pow_le_pow_right (by decide) (by omega)))
  simp[hi,this]
end Go.Proofs.YtpghlmcoajaiiaaGreatDoor
