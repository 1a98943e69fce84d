/- Texts that other texts of this claim lean on, one behind the other. -/
import Derived.Test.YtpghlmcoajaiiaaGreatDoorB11
import Derived.Test.YtpghlmcoajaiiaaGreatDoorB6
import Derived.Test.YtpghlmcoajaiiaaGreatDoorB1
import Derived.Deep.RegionHeld3
import Derived.RegionTactic
import Derived.Test.YtpghlmcoajaiiaaGreatDoorB2
import Derived.Test.YtpghlmcoajaiiaaGreatDoorB3
import Derived.Test.YtpghlmcoajaiiaaGreatDoorB4
import Derived.Test.YtpghlmcoajaiiaaGreatDoorB5
import Derived.Test.YtpghlmcoajaiiaaGreatDoorB7
import Derived.Test.YtpghlmcoajaiiaaGreatDoorB8
import Derived.Lib.ConvBytes
import Derived.Test.YtpghlmcoajaiiaaGreatDoorB9
import Derived.Test.YtpghlmcoajaiiaaGreatDoorB10
import Derived.Deep.DeepCutAuto
import Derived.Deep.CutBlock
import Derived.Deep.QuietTactic
import Derived.BigQuiet
set_option maxHeartbeats 20000000
set_option maxRecDepth 100000
namespace Go.Proofs.YtpghlmcoajaiiaaGreatDoor
open Go.RowKit
def RBox (B b:Nat) (wr:World) (N:Nat) (t:Tr):Prop:=
 ∃p l a m d,Boxes wr [(b,[.int .i64 p,.bool l,.slice a m d])]∧RNodeOn (fun x=>B≤x) N wr [.int .i64 p,.bool l,.slice a m d] t
def RStay (B b:Nat) (w wr:World) (M:Nat) (T:Tr) (wx:World):Prop:=RBox B b wx M T∧AgreeF (fun x=>x≠b) wr wx∧Below w.heap.size w wx
theorem RStay.mk {B b:Nat} {w wr w9:World} {M:Nat} {T:Tr} {x0 x1 x2:Value} {p:Int} {l:Bool} {a:Option Addr} {m d:Nat} (hx:Boxes w9 [(b,[x0,x1,x2])]) (h:RNodeOn (fun x=>B≤x) M w9 [.int .i64 p,.bool l,.slice a m d] T) (hb:b<B) (hA:AgreeF (fun x=>x≠b) wr w9) (hB:Below w.heap.size w w9) (hle:w.heap.size≤b) :
 RStay B b w wr M T (((w9.setCell ⟨b,0,none⟩ (.int .i64 p)).setCell ⟨b,1,none⟩ (.bool l)).setCell ⟨b,2,none⟩ (.slice a m d)):=
 ⟨⟨p,l,a,m,d,((hx.put 0 (.int .i64 p) (by simp)).put 1 (.bool l) (by simp)).put 2 (.slice a m d) (by simp),h.put3 (by omega) _ _ _⟩,((hA.st).st).st,((hB.setCell (by simpa using hle) _).setCell (by simpa using hle) _).setCell (by simpa using hle) _⟩
def RGo (G:Nat→Prop) (n:Nat) (w:World) (t:Tr) (e:Ending) (w':World):Prop:=∃p l a m d,e=.returned (.agg #[.int .i64 p,.bool l,.slice a m d])∧RNodeOn G n w' [.int .i64 p,.bool l,.slice a m d] t∧Below w.heap.size w w'
theorem RNodeTo.go {F G:Nat→Prop} {n M:Nat} {W w':World} {T:Tr} {e:Ending} {lo hi:List UInt8} (h:RNodeTo F n W T e w') (hG:∀b,Fr F W b→G b) (hs:Shape M lo hi T):RGo G M W T e w':=by
 obtain⟨p,l,a,m,d,e,h1,h2⟩:=h.split;exact⟨p,l,a,m,d,e,(h1.mono hG).less hs,h2⟩
theorem rempty_on {F G:Nat→Prop} {w:World} {cs:List Value} (h:RNodeOn G 1 w cs (.leaf 0 [])):∃a c,cs=[.int .i64 0,.bool true,.slice a 0 c]∧RNodeOn F 1 w cs (.leaf 0 []):=by
 obtain⟨a,c,rfl,h1,_⟩:=h.at;refine⟨a,c,rfl,RNodeOn.mk (t:=.leaf 0 []) ?_ (Fa.zero _ _)⟩;obtain⟨g1,g2,g3,g4,g5⟩:=h1;exact⟨g1,g2,g3,g4,.inl rfl⟩
section
variable {P:Program}
theorem step_make_run {ops:Array Oper} {o:Oper} {a:Act} {w:World} {K:Act→World→Prop} {Q:Exit→Act→World→Prop} {E:Prop} (hgd:o.guard=none) (t:TypeId) (x y:Operand) (ho:o.op=.makeSlice t x y) {v u r:Value} {w':World} (hx:a.eval x=v) (hy:a.eval y=u)
 (hr:(Instr.makeSlice t v u).run P w=.ok r w') (h:K (a.put o.dst r) w'):if Region.wanted o (yielded ops a.tmps)=true then Oper.wp P o a w K Q else E:=by
 exact q9332b0
theorem step_convert_run {ops:Array Oper} {o:Oper} {a:Act} {w:World} {K:Act→World→Prop} {Q:Exit→Act→World→Prop} {E:Prop} (hgd:o.guard=none) (s t:TypeId) (x:Operand) (ho:o.op=.convert s t x) {v r:Value} {w':World} (hx:a.eval x=v)
 (hr:(convert s t v).run P w=.ok r w') (h:K (a.put o.dst r) w'):if Region.wanted o (yielded ops a.tmps)=true then Oper.wp P o a w K Q else E:=by
 exact q0da5fb
end
open Go.RowKit
def IsTx (cs:List Value) (s:List UInt8):Prop:=cs=[.string (strOf s)]
def Txs (w:World) (a:Option Addr) (len cap:Nat) (l:List (List UInt8)):Prop:=TabR 1 IsTx w a len cap l
open Go.RowKit
abbrev C4:={ l:List Value // l.length=4∧∀v∈l,v.oneCell'=true }
def lcells (y:Nat×P128):List Value:=[.int .i64 (y.1:Int),.string (strOf y.2.1)]
def Ls (w:World) (a:Option Addr) (len cap:Nat) (l:List (Nat×P128)):Prop:=TabR 2 (fun cs y=>cs=lcells y) w a len cap l
def pagesL (x:Rg):List (List UInt8):=(List.range x.size).map fun p=>(x.pages p).1
def IsG (w:World) (g:List Value) (x:Rg):Prop:=∃pa pc la lc,g=[.slice pa x.size pc,.slice la x.loose.length lc,.int .i64 x.left,.bool x.down]∧Txs w pa x.size pc (pagesL x)∧Ls w la x.loose.length lc x.loose∧x.size≤1000∧(∀p∈x.loose,p.1<x.size) ∧ -1≤x.left∧x.left≤9223372036854775807
def Gs (w:World) (a:Option Addr) (len cap:Nat) (d:List Rg):Prop:=d.length=len∧∃gs:List C4,TabR 4 (fun cs (y:C4)=>cs=y.1) w a len cap gs∧∀(i:Nat) (g:C4) (x:Rg),gs[i]? = some g→d[i]? = some x→IsG w g.1 x
def Agree (K:Nat→Prop) (w W:World):Prop:=w.heap.size≤W.heap.size∧∀k o,K k→w.heap[k]? = some o→W.heap[k]? = some o
def GsK (K:Nat→Prop) (w:World) (a:Option Addr) (len cap:Nat) (d:List Rg):Prop:=d.length=len∧∃gs:List C4,(∀W,Agree K w W→TabR 4 (fun cs (y:C4)=>cs=y.1) W a len cap gs)∧∀(i:Nat) (g:C4) (x:Rg),gs[i]? = some g→d[i]? = some x→∀W,Agree K w W→IsG W g.1 x
open Go.RowKit
structure RLd (w:World) (sb:Nat) (a:Option Addr) (len cap:Nat) (d:List Rg) (r:Int) (v:Value) (seen:List Int) (E:Int):Prop where
 box:Boxes w [(sb,[.slice a len cap,.int .i64 r,v,.int .i64 E])]
 own:w.ownsRow (sb+1) 3 1 v seen.length (seen.map (Value.int .i64))
 gs:∃K,GsK K w a len cap d∧∀k,K k→k<sb
 l9:len≤1000
section
variable {w w':World} {sb:Nat} {a:Option Addr} {len cap:Nat} {d:List Rg} {r:Int} {v v':Value} {seen s2:List Int} {E E2:Int}
def RS (sb:Nat) (v:Value):List Nat:=sb::v.ownBlock.toList
theorem RS.mem {k:Nat}:k∈RS sb v↔k=sb∨v.ownBlock=some k:=by
 unfold RS;cases h:v.ownBlock with
 | none=>simp
 | some g=>simp[eq_comm]
end
open Go.RowKit
open Go.RowKit
open Go.RowKit
open Go.RowKit
open Go.RowKit
open Go.RowKit
open Go.RowKit
structure GRelY (w:World) (d:List Rg) (r:Int) (n sz:Nat) (R:List UInt8×List Int×Int) (i:Nat) (s:List UInt8) (at_:List Int) (first:Int) (v:Value) (wr:World):Prop where
 le:i≤n
 al:at_.length=i
 sl:s.length≤119*i
 fin:if i<n then getFC (rdC d r) (4-i) s (at_++[first]) ((sz:Int)-119*i)=R else R=(s,at_,0)
 own:wr.ownsRow w.heap.size 3 1 v i (at_.map (Value.int .i64))
 bl:Below w.heap.size w wr
open Go.RowKit
theorem zero_refV (w:World):(zeroValue 142).run Tryz.prog w=.ok (.agg #[.string ⟨#[]⟩,.slice none 0 0]) w:=by kernel_rfl
theorem Turn.refl (w:World) (v:Value):Turn w v v:=.inl rfl
theorem Turn.trans {w w1:World} {v v1 v2:Value} (h:Turn w v v1) (k:Turn w1 v1 v2) (hs:w.heap.size≤w1.heap.size):Turn w v v2:=by
 rcases k with k|k
 ·rcases h with h|h
  ·exact .inl (k.trans h)
  ·exact .inr fun g e=>h g (k ▸ e)
 ·exact .inr fun g e=>Nat.le_trans hs (k g e)
theorem Turn.from {w w1:World} {v v1:Value} (h:Turn w1 v v1) (hs:w.heap.size≤w1.heap.size):Turn w v v1:=(Turn.refl w v).trans h hs
theorem only_next {sb:Nat} {v v1:Value} {w w1 w2:World} (h:Only (RS sb v) w w1) (t:Turn w v v1) (k:Only (RS sb v1) w1 w2):Only (RS sb v) w w2:=
 h.then k (fun i hi=>by
  rcases RS.mem.1 hi with rfl|hi
  ·exact .inl (RS.mem.2 (.inl rfl))
  ·rcases t with t|t
   ·exact .inl (RS.mem.2 (.inr (t ▸ hi)))
   ·exact .inr (t i hi))
open Go.RowKit
def RG (B:Nat) (vi vL:Value) (b:Nat):Prop:=B≤b∧vi.ownBlock≠some b∧vL.ownBlock≠some b
structure RM (w wB:World) (sb:Nat) (a:Option Addr) (len cap:Nat) (d:List Rg) (r:Int) (v0 vb:Value) (ob rb n:Nat) (p:Int) (lf:Bool) (vi:Value) (s:List Int) (E:Int) (vL:Value) (LL:List (Cl 4)) (ys:List Rc) (wr:World):Prop where
 box:Boxes wr [(ob,[.int .i64 p,.bool lf,vL]),(rb,[.int .i64 0,.bool false,.slice none 0 0])]
 ld:RLd wr sb a len cap d r vi s E
 row:wr.ownsRow wB.heap.size 145 4 vL LL.length (flatC LL)
 dv:∀g,vL.ownBlock=some g→vi.ownBlock≠some g
 tl:E=0→Tells (RcOn (RG wB.heap.size vi vL) n wr) LL ys
 ol:Only (RS sb v0) w wr
 tu:Turn w v0 vi
 tb:Turn wB vb vi
 ag:AgreeF (fun b=>b≠sb∧b≠ob∧vb.ownBlock≠some b) wB wr
 bv:∀g,vb.ownBlock=some g→g≠ob∧g≠rb∧g<wB.heap.size
 so:sb<w.heap.size
 ro:w.heap.size≤rb
 oo:rb<ob
 on:ob<wB.heap.size
section
variable {w wB wr w':World} {sb:Nat} {a:Option Addr} {len cap:Nat} {d:List Rg} {r:Int} {v0 vb:Value} {ob rb n:Nat} {p:Int} {lf:Bool} {vi:Value} {s:List Int} {E:Int} {vL:Value} {LL:List (Cl 4)} {ys:List Rc}
theorem rcMove {F G:Nat→Prop} {n:Nat} {w w':World} {cs:List Value} {y:Rc} (h:RcOn F n w cs y) (ha:AgreeF F w w') (hG:∀b,F b→b<w.heap.size→G b):RcOn G n w' cs y:=
 (h.lt.agree ⟨ha.1,fun b hb hlt=>ha.2 b hb.1 hlt⟩).mono (fun b hb=>hG b hb.1 hb.2)
theorem info_Cr:RowInfo Tryz.prog 145 4 80:=row_info (by kernel_rfl)
end
open Go.RowKit
open Go.RowKit
theorem str_bytes {P:Program} (w:World) {src dst e:TypeId} (hs:P.underlying src=some .string) (hd:P.underlying dst=some (.slice e)) (he:P.underlying e=some (.int .u8)) (l:List UInt8) (hl:l.length≤140737488351232) :
 ∃c w',(convert src dst (.string (strOf l))).run P w=.ok (.slice (some ⟨w.heap.size,0,none⟩) l.length c) w'∧Bs w' (some ⟨w.heap.size,0,none⟩) l.length c l∧Below w.heap.size w w':=by
 have h:=Lib.run_convert_string_bytes (P:=P) w src dst e (strOf l) hs hd he;rw[strOf_size] at h;refine⟨_,_,h,⟨by rw[toI_length],grownCap_ge w _ 0 e,grownCap_le_maxLen w _ 0 e (by unfold maxLen;omega),(fun h=>by cases h),.inr ⟨_,0,rfl,by rw[Lib.bytesWorld_size];omega,fun i hi=>?_⟩⟩,?_⟩
 ·have:=Lib.bytesWorld_cell w e (strOf l) i (by rw[strOf_size];exact hi)
  rw[Nat.zero_add,this,strOf_list,toI_get,List.getD_eq_getElem?_getD]
 ·have e1:(Lib.bytesWorld w e (strOf l)).os=w.os∧(Lib.bytesWorld w e (strOf l)).tape=w.tape∧(Lib.bytesWorld w e (strOf l)).output=w.output:=by
   unfold Lib.bytesWorld World.freeze
   split<;>exact⟨rfl,rfl,rfl⟩
  exact⟨e1.1,e1.2.1,e1.2.2,by rw[Lib.bytesWorld_size];omega,fun k hk=>Lib.bytesWorld_at_old w e _ k hk⟩
open Go.RowKit
theorem page_turned (kind:UInt8) (l:List (List UInt8)) (h:fits kind l=true) (at_:Nat) (hat:at_<128) (c:UInt8) (hc:(pageOf kind l)[at_]? ≠ some c):unpE ((pageOf kind l).set at_ c)=12:=by
 have hfit:l.length+lens l≤122:=by
  simp only[fits,Bool.and_eq_true,decide_eq_true_eq] at h;exact h.2
 have hlen:=pageOf_length kind l hfit;obtain⟨hd,bd,hp,h4,hs⟩:∃hd bd:List UInt8,pageOf kind l=hd++bd∧hd.length=4∧beVal hd=crcOf bd:=by
  refine⟨_,_,rfl,beBytes_length _ _,?_⟩;have hx:=crcOn_lt 0 (bodyOf kind l.length l);rw[beVal_beBytes,Nat.mod_eq_of_lt (by exact hx)]
 rw[hp] at hc hlen ⊢;have hne:beVal (((hd++bd).set at_ c).take 4)≠crcOf (((hd++bd).set at_ c).drop 4):=by
  by_cases h1:at_<4
  ·rw[List.set_append_left _ _ (by omega)]
   have e1:(hd.set at_ c++bd).take 4=hd.set at_ c:=by
    have:=List.take_left (l₁:=hd.set at_ c) (l₂:=bd);rwa [List.length_set,h4] at this
   have e2:(hd.set at_ c++bd).drop 4=bd:=by
    have:=List.drop_left (l₁:=hd.set at_ c) (l₂:=bd);rwa [List.length_set,h4] at this
   rw[e1,e2,←hs];intro e;have b1:=beBytes_beVal hd;have b2:=beBytes_beVal (hd.set at_ c);rw[List.length_set,e,b1] at b2;apply hc;rw[List.getElem?_append_left (by omega),b2];simp[h4,h1]
  ·rw[List.set_append_right _ _ (by omega),h4]
   have e1:(hd++bd.set (at_-4) c).take 4=hd:=by
    have:=List.take_left (l₁:=hd) (l₂:=bd.set (at_-4) c);rwa [h4] at this
   have e2:(hd++bd.set (at_-4) c).drop 4=bd.set (at_-4) c:=by
    have:=List.drop_left (l₁:=hd) (l₂:=bd.set (at_-4) c);rwa [h4] at this
   rw[e1,e2,hs];intro e;have hbl:at_-4<bd.length:=by simp at hlen;omega
   have hbd:bd=bd.take (at_-4)++bd[at_-4]::bd.drop (at_-4+1):=by simp
   rw[List.set_eq_take_append_cons_drop,if_pos hbl] at e
   conv at e=>lhs;rw[hbd]
   have:=crcOf_turned _ _ e;apply hc;rw[List.getElem?_append_right (by omega),h4,List.getElem?_eq_getElem hbl,this]
 rw[unpE,if_neg (by rw[List.length_set];omega),if_pos hne]
theorem str_add {P:Program} (a b:List UInt8) (h:a.length+b.length≤9223372036854775807) (W:World):(Op.stringOp .add (strOf a) (strOf b)).run P W=.ok (.string (strOf (a++b))) W:=by
 rw[run_string_add_sum W _ _ (by rw[strOf_size,strOf_size];exact h),strOf_append]
open Go.RowKit
def fineB (v:Vv):Bool:=
 if v.far then v.data == [] && (decide (16<v.size) && (decide (v.size≤400) && pageB v.page))
 else decide (v.data.length≤16) && (v.size == 0 && v.page == 0)
theorem mayL_fine (e:En):mayL e=(keyB e.key && fineB e.v):=by
 unfold mayL fineB;split<;>rfl
theorem rfine_any (v:Vv) (w:World) :
 Calls Tryz.prog 183 #[vv v] w fun e w'=>e=.returned (.bool (fineB v))∧Below w.heap.size w w':=by
 obtain⟨d,f,s,p⟩:=v;have hst:=strOf_toList;have hsz:=strOf_size d;unfold vv;cases f
 all_goals
  go_enter Tryz.func183,Tryz.ntmps183
  go_wp2
  all_goals
   go_ret;exact ret_b (by simp[fineB,pageB, *]<;>omega) (below_one w _)
theorem append_strs {w:World} {base:Nat} {v:Value} {n:Nat} {l:List (List UInt8)} (h:w.ownsRow base 9 1 v n (l.map sv)) (c:List UInt8) (hn:n≤65536) (hbase:base≤w.heap.size) :
 ∃v' w',(Builtin.append_ #[46,46] 46 #[v,.slice (some ⟨w.heap.size,0,none⟩) 1 1]).run Tryz.prog (w.alloc (.cells #[.string (strOf c)] 9))=.ok v' w'∧w'.ownsRow base 9 1 v' (n+1) ((l++[c]).map sv)∧w.grownBy w' v.ownBlock:=by
 obtain⟨i0,hi,hz0,hz1,hz2⟩:=info_parts info_str;obtain⟨v',w',hr,ho,hg,_⟩:=run_append_new (P:=Tryz.prog) base 46 9 i0 _ 1 16 Tryz.underlying46 hi hz0 hz1 hz2 rfl (by decide) h #[.string (strOf c)] rfl (fun u hu=>by simp at hu;subst hu;rfl) (by unfold maxLen;omega) (by omega) hbase;exact⟨v',w',hr,by rw[List.map_append];exact ho,hg⟩
theorem cellsN_snoc1 (leaf:Bool) (l:List En) (k:Nat) (e:En) (h:l[k]? = some e):cellsN leaf (l.take (k+1))=cellsN leaf (l.take k)++[cellN leaf e]:=cellsN_snoc leaf l k e h
theorem rcells_any (leaf:Bool) (a:Option Addr) (len cap:Nat) (l:List En) (w:World) (h:NEnts w a len cap l) (hlen:len≤65536) (hd:SmE l) :
 Calls Tryz.prog 170 #[.agg #[.bool leaf,.slice a len cap]] w (OwnStrs w (cellsN leaf l)):=by
 have hB:=below_one w (.cells #[.bool leaf,.slice a len cap] 221);have BX:=(Boxes.nil w).alloc #[.bool leaf,.slice a len cap] 221 rfl;have h1:=h.below (Nat.le_refl _) hB;have hll:=Hd h1.len;have HI:=Hd hd;clear hd h1;have HB:=Hd hB;have HX:=Hd BX;clear hB BX;go_enter Tryz.func170,Tryz.ntmps170;go_wp2_with fail
 go_loopw [3,4] (fun o i wr=>∃(k:Nat) (v:Value),k≤len∧i=.int .i64 k∧v=o∧wr.ownsRow (w.heap.size+1) 9 1 v k ((cellsN leaf (l.take k)).map sv)∧Boxes wr [(w.heap.size,[.bool leaf,.slice a len cap])]∧Below w.heap.size w wr) (fun _ i _=>len-(intOf i).toNat)
 case atStart=>exact⟨0,_,Nat.zero_le _,rfl,rfl,World.ownsRow_nil _ _ _ _,HX.out,HB.out⟩
 case round=>
  obtain⟨k,v,hk,rfl,rfl,hown,BX,hbw⟩:=hrel;have d0:=BX.cell 0 0 rfl rfl;have d1:=BX.cell 0 1 rfl rfl
  by_cases hlt:k<len
  ·obtain⟨b,off,e,rfl,hbb,hy,e0,e1,e2,e3,e4⟩:=(h.below (Nat.le_refl _) hbw).at hlt
   obtain⟨hl1,hl2⟩:=HI.out e (List.mem_of_getElem? hy);have hnb:v.ownBlock≠some w.heap.size:=fun e9=>by have:=own_ge hown _ e9;omega
   have hwl:=BX.lt 0 rfl;have hov:∀j,v.ownBlock=some j→w.heap.size≤j:=fun j hj=>by have:=own_ge hown j hj;omega
   have hb6:=below_one wr (.cells #[.string (strOf e.v.data),.bool e.v.far,.int .i64 e.v.size,.int .i64 e.v.page] 224);have B6:=BX.alloc #[.string (strOf e.v.data),.bool e.v.far,.int .i64 e.v.size,.int .i64 e.v.page] 224 rfl;have hq1:=(hb6.cell (p:=⟨b,off+k*5,none⟩) hbb).trans e0;have T1:=fun W=>refText_any e.key W (by omega)
   have d2:=B6.cell 1 1 rfl rfl;have d3:=B6.cell 1 0 rfl rfl;have hbl:=Hd hbw;have hbx:=B6.lt 0 rfl;have HBX:=Hd BX;clear BX;cases leaf with
   | false=>
    have hw:=wrap_u64N e.v.page;have N2:∀W,Calls Tryz.prog 67 #[.int .u64 (u64N e.v.page:Int),.int .i64 2] W (RetStr W (two e.v.page)):=fun W=>refNum_ok (u64N e.v.page) 2 W (u64N_lt _) (by decide) (by decide)
    have ha:∀W,(Op.stringOp .add (strOf (textF e.key)) (strOf (two e.v.page))).run Tryz.prog W=.ok (.string (strOf (cellN false e))) W:=fun W=>str_add (P:=Tryz.prog) _ _ (by rw[textF_length,two_length];omega) W
    go_wp2_with fail;refine(T1 _).mono ?_;rintro en w7 ⟨rfl,hb7⟩;have B7:=B6.step hb7;have d4:=B7.cell 1 0 rfl rfl;have d5:=B7.cell 0 3 rfl rfl;have hE:=below_then hb6 hb7;clear hb7 d2 d3 d0 d1 hq1 e0 e1 e2 e3 e4;go_wp2_with fail;refine(N2 _).mono ?_;rintro en w8 ⟨rfl,hb8⟩;have hE:=below_then hE hb8;clear hb8 d4 d5 B6 B7;have BX:=HBX.out;have hbw:=hbl.out;have hx:=append_strs (own_below hown (Nat.le_refl _) hE) (cellN false e) (by omega) (Nat.le_trans hwl hE.size);obtain⟨v9,wz,hr9,ho9,hg9⟩:=hx;have hbe:=below_then hbw hE;have hz9:=hbe.grown hg9 hbe.size hov;have B9:=(BX.step hE).grown hg9 (fun p hp=>by simp at hp;subst hp;exact hnb);rw[←cellsN_snoc1 false l k e hy] at ho9;exact q426cc0
   | true=>
    cases hf:e.v.far with
    | false=>
    have ha1:∀W,(Op.stringOp .add ⟨#[0]⟩ (strOf e.v.data)).run Tryz.prog W=.ok (.string (strOf ([0]++e.v.data))) W:=fun W=>str_add (P:=Tryz.prog) [0] e.v.data (by simp;omega) W
    have ha:∀W,(Op.stringOp .add (strOf (textF e.key)) (strOf ([0]++e.v.data))).run Tryz.prog W=.ok (.string (strOf (cellN true e))) W:=fun W=>by
     have:=str_add (P:=Tryz.prog) (textF e.key) ([0]++e.v.data) (by rw[textF_length];simp;omega) W
     rwa [show textF e.key++([0]++e.v.data)=cellN true e from by simp[cellN,encV,encL,hf]] at this
    generalize hs3:[0]++e.v.data=s3 at *;clear hs3;simp only[hf] at B6 hb6 hq1 e2;go_wp2_with fail;refine(T1 _).mono ?_;rintro en w7 ⟨rfl,hb7⟩;have B7:=B6.step hb7;have d4:=B7.cell 1 0 rfl rfl;have d5:=B7.cell 0 0 rfl rfl;have d6:=B7.cell 0 1 rfl rfl;have hE:=below_then hb6 hb7;clear hb7 d2 d3 d0 d1 hq1 e0 e1 e2 e3 e4 B6 B7;exact qe30b5b
    | true=>
    have hw:=wrap_u64N e.v.page;have hw2:=wrap_u64N e.v.size;have N1:∀W,Calls Tryz.prog 67 #[.int .u64 (u64N e.v.size:Int),.int .i64 2] W (RetStr W (two e.v.size)):=fun W=>refNum_ok (u64N e.v.size) 2 W (u64N_lt _) (by decide) (by decide)
    have N2:∀W,Calls Tryz.prog 67 #[.int .u64 (u64N e.v.page:Int),.int .i64 2] W (RetStr W (two e.v.page)):=fun W=>refNum_ok (u64N e.v.page) 2 W (u64N_lt _) (by decide) (by decide)
    have ha1:∀W,(Op.stringOp .add ⟨#[1]⟩ (strOf (two e.v.size))).run Tryz.prog W=.ok (.string (strOf ([1]++two e.v.size))) W:=fun W=>str_add (P:=Tryz.prog) [1] (two e.v.size) (by simp[two_length]) W
    have ha2:∀W,(Op.stringOp .add (strOf ([1]++two e.v.size)) (strOf (two e.v.page))).run Tryz.prog W=.ok (.string (strOf ([1]++two e.v.size++two e.v.page))) W:=fun W=>str_add (P:=Tryz.prog) ([1]++two e.v.size) (two e.v.page) (by simp[two_length]) W
    have ha:∀W,(Op.stringOp .add (strOf (textF e.key)) (strOf ([1]++two e.v.size++two e.v.page))).run Tryz.prog W=.ok (.string (strOf (cellN true e))) W:=fun W=>by
     have:=str_add (P:=Tryz.prog) (textF e.key) ([1]++two e.v.size++two e.v.page) (by rw[textF_length];simp[two_length];omega) W
     rwa [show textF e.key++([1]++two e.v.size++two e.v.page)=cellN true e from by simp[cellN,encV,encL,hf]] at this
    simp only[hf] at B6 hb6 hq1 e2;generalize [1]++two e.v.size++two e.v.page=s3 at *;generalize [1]++two e.v.size=s2 at *;generalize hs1:two e.v.size=s1 at *;generalize hsp:two e.v.page=sp at *;clear hs1 hsp;go_wp2_with fail;refine(T1 _).mono ?_;rintro en w7 ⟨rfl,hb7⟩;have B7:=B6.step hb7;have d4:=B7.cell 1 0 rfl rfl;have d6:=B7.cell 0 1 rfl rfl;have hE:=below_then hb6 hb7;clear hb7 d2 d3 d0 d1 hq1 e0 e1 e2 e3 e4 B6;have c2:∀W,Below w7.heap.size w7 W→W.cell? ⟨wr.heap.size,2,none⟩=some (.int .i64 e.v.size):=fun W hW=>(B7.step hW).cell 0 2 rfl rfl
    have c3:∀W,Below w7.heap.size w7 W→W.cell? ⟨wr.heap.size,3,none⟩=some (.int .i64 e.v.page):=fun W hW=>(B7.step hW).cell 0 3 rfl rfl
    have hC:Below w7.heap.size w7 w7.drew:=(Below.refl _ _).drew;go_wp2_with fail
    go_region_held3 (fun W=>Below w7.heap.size w7 W) (first|with_reducible assumption) (first|(go_at_call 67;(with_reducible refine(N1 _).mono ?_);rintro en w8 ⟨rfl,hb8⟩;have hC8:=hC.trans (hb8.mono hC.size))|(go_at_call 67;(with_reducible refine(N2 _).mono ?_);rintro en w9 ⟨rfl,hb9⟩;have hC9:=hC8.trans (hb9.mono hC8.size)))
    have hE:=below_then hE hC9;clear hC hC8 hC9 c2 c3 d4 d6 B7;exact qe30b5b
  ·obtain rfl:k=len:=by omega
   go_wp2_with fail;go_ret;rw[List.take_of_length_le (by rw[hll.out];exact Nat.le_refl _)] at hown;exact⟨v,rfl,by rw[cellsN_length,hll.out];exact own_baseC hown (by omega),hbw⟩
open Go.RowKit
def keyOkN (leaf:Bool) (i:Nat) (k:List UInt8):Bool:=if leaf then keyB k else firstB i k
def valOkN (leaf:Bool) (v:Vv):Bool:=if leaf then fineB v else pageB v.page && v == ⟨[],false,0,v.page⟩
theorem mayN_parts (leaf:Bool) (i:Nat) (e:En):mayN leaf i e=(keyOkN leaf i e.key && valOkN leaf e.v):=by
 cases leaf
 ·rfl
 ·exact mayL_fine e
theorem vneq_page (v:Vv) (w:World) :
 (binOp .neq 224 (.agg #[.string (strOf v.data),.bool v.far,.int .i64 v.size,.int .i64 v.page]) (.agg #[.string ⟨#[]⟩,.bool false,.int .i64 0,.int .i64 v.page])).run Tryz.prog w=.ok (.bool (v != ⟨[],false,0,v.page⟩)) w:=by
 obtain⟨a,b,c,d⟩:=v;have hn:(ByteArray.mk #[]).toList=[]:=strOf_toList []
 by_cases h1:a=[]<;>by_cases h2:b=false<;>by_cases h3:c=0<;>simp[go_sem,strOf_toList,h1,h2,h3,bne,hn]
theorem rcheckN_any (leaf:Bool) (a:Option Addr) (len cap:Nat) (l:List En) (w:World) (h:NEnts w a len cap l) (hlen:len≤65536) (hd:SmE l) :
 Calls Tryz.prog 148 #[.agg #[.bool leaf,.slice a len cap]] w fun e w'=>e=.returned (.bool (nodeB leaf l))∧Below w.heap.size w w':=by
 have hB:=below_one w (.cells #[.bool leaf,.slice a len cap] 221);have BX:=(Boxes.nil w).alloc #[.bool leaf,.slice a len cap] 221 rfl;have h1:=h.below (Nat.le_refl _) hB;have hll:=Hd h1.len;have HI:=Hd hd;clear hd h1;have HB:=Hd hB;have HX:=Hd BX;clear hB BX;go_enter Tryz.func148,Tryz.ntmps148;go_wp2_with fail
 go_loopw [3] (fun i wr=>∃(k:Nat),k≤len∧i=.int .i64 k∧upN leaf l k=true∧Boxes wr [(w.heap.size,[.bool leaf,.slice a len cap])]∧Below w.heap.size w wr) (fun i _=>len-(intOf i).toNat)
 case atStart=>exact⟨0,Nat.zero_le _,rfl,rfl,HX.out,HB.out⟩
 case round=>
  obtain⟨k,hk,rfl,hup,BX,hbw⟩:=hrel;have d0:=BX.cell 0 0 rfl rfl;have d1:=BX.cell 0 1 rfl rfl
  by_cases hlt:k<len
  ·obtain⟨b,off,e,rfl,hbb,hy,e0,e1,e2,e3,e4⟩:=(h.below (Nat.le_refl _) hbw).at hlt
   obtain⟨hl1,hl2⟩:=HI.out e (List.mem_of_getElem? hy);have hb6:=below_one wr (.cells #[.string (strOf e.v.data),.bool e.v.far,.int .i64 e.v.size,.int .i64 e.v.page] 224);have B6:=BX.alloc #[.string (strOf e.v.data),.bool e.v.far,.int .i64 e.v.size,.int .i64 e.v.page] 224 rfl;have hbw6:=below_then hbw hb6;have d2:=B6.cell 1 1 rfl rfl;have d3:=B6.cell 1 0 rfl rfl;have hgd:l[k]?.getD ⟨[],Vv.zero⟩=e:=by rw[hy];rfl
   have hst:stepN leaf l k=((keyOkN leaf k e.key && valOkN leaf e.v) && !(decide (0<k) && kle e.key (l[k-1]?.getD ⟨[],Vv.zero⟩).key)):=by rw[stepN,hgd,mayN_parts]
   have hus:upN leaf l (k+1)=stepN leaf l k:=by rw[upN_succ,hup,Bool.true_and]
   have hns:stepN leaf l k=false→nodeB leaf l=false:=nodeB_step (by rw[hll.out];exact hlt);have HST:=Hd hst;have HUS:=Hd hus;have HNS:=Hd hns;have F:∀W,Calls Tryz.prog 183 #[.agg #[.string (strOf e.v.data),.bool e.v.far,.int .i64 e.v.size,.int .i64 e.v.page]] W fun en w'=>en=.returned (.bool (fineB e.v))∧Below W.heap.size W w':=fun W=>rfine_any e.v W
   have hss:=strOf_toList;have hsz:=strOf_size e.key;clear hst hus hns hgd;cases leaf with
   | true=>
    by_cases hk0:k=0
    ·subst hk0
     simp only[Nat.zero_mul,Nat.add_zero] at e0 e1 e2 e3 e4
     by_cases hkn:e.key=[]
     ·have hkb:keyB e.key=false:=by rw[hkn];rfl
      have HF:Hid (nodeB true l=false):=Hd (HNS.out (by rw[HST.out];simp[keyOkN,hkb]));simp only[hkn] at e0 hsz;exact q0ddb2b
     ·have hkn2:(e.key == [])=false:=by simpa using hkn
      by_cases hk16:16<e.key.length
      ·have q16:decide ((16:Int)<(e.key.length:Int))=true:=by simp;omega
       exact q15d91b
      ·have q16:decide ((16:Int)<(e.key.length:Int))=false:=by simp;omega
       have hkb:keyB e.key=true:=by simp[keyB,hkn];omega
       cases hfn:fineB e.v with
       | false=>
        rw[hfn] at F;have HF:Hid (nodeB true l=false):=Hd (HNS.out (by rw[HST.out];simp[valOkN,hfn]));exact qbe6c73
       | true=>
        rw[hfn] at F;have HU:Hid (upN true l (0+1)=true):=Hd (by rw[HUS.out,HST.out];simp[hkb,keyOkN,valOkN,hfn])
        go_wp2_with (first|(go_at_call 183;(with_reducible refine(F _).mono ?_);rintro en w7 ⟨rfl,hb7⟩;have hC7:=below_then hbw6 hb7;have B7:=B6.step hb7;have f0:=B7.cell 0 0 rfl rfl;have f1:=B7.cell 0 1 rfl rfl;have f2:=B7.cell 0 2 rfl rfl;have f3:=B7.cell 0 3 rfl rfl;have f4:=B7.cell 1 0 rfl rfl))
        have B8:=B7.sub (m:=[(w.heap.size,[.bool true,.slice (some ⟨b,off,none⟩) len cap])]) (by intro p hp;simp at hp;subst hp;simp);clear f0 f1 f2 f3 f4;go_roundw
        case rel=>exact⟨0+1,by omega,by go_num,HU.out,B8,hC7⟩
        case measure=>simp[intOf];omega
    ·obtain⟨p,hp1,hp2⟩:∃p,p+1=k∧p<len:=⟨k-1,by omega,by omega⟩
     obtain⟨b2,off2,e',hq,hb2l,hy2,hc',_⟩:=(h.below (Nat.le_refl _) hbw).at hp2;cases hq;have hg2:l[k-1]?.getD ⟨[],Vv.zero⟩=e':=by rw[show k-1=p by omega,hy2];rfl
     rw[hg2] at HST;have hk1:decide ((0:Int)<(k:Int))=true:=by simp;omega
     have hk1n:decide (0<k)=true:=by simp;omega
     have hk1p:0<k:=by omega
     have hk1z:((k:Int) == 0)=false:=by simp;omega
     have hpp:(0:Int)≤(p:Int)∧(p:Int)<(len:Int):=by omega
     have hsub:(k:Int)-1=(p:Int):=by omega
     have hp6:=(hb6.cell (p:=⟨b,off+p*5,none⟩) hb2l).trans hc';clear hg2 hy2 hb2l
     by_cases hkn:e.key=[]
     ·have hkb:keyB e.key=false:=by rw[hkn];rfl
      have HF:Hid (nodeB true l=false):=Hd (HNS.out (by rw[HST.out];simp[keyOkN,hkb]));simp only[hkn] at e0 hsz;exact q0ddb2b
     ·have hkn2:(e.key == [])=false:=by simpa using hkn
      by_cases hk16:16<e.key.length
      ·have q16:decide ((16:Int)<(e.key.length:Int))=true:=by simp;omega
       exact q15d91b
      ·have q16:decide ((16:Int)<(e.key.length:Int))=false:=by simp;omega
       have hkb:keyB e.key=true:=by simp[keyB,hkn];omega
       cases hke:kle e.key e'.key with
       | true=>
        have hlq:(Op.bytesLess (strOf e.key).toList (strOf e'.key).toList || (strOf e.key).toList == (strOf e'.key).toList)=true:=by rw[strOf_toList,strOf_toList,bytes_less];exact hke
        simp only[strOf_toList] at hlq;have HF:Hid (nodeB true l=false):=Hd (HNS.out (by rw[HST.out];simp[hke,hk1p]));clear hp1;exact q0ddb2b
       | false=>
        have hlq:(Op.bytesLess (strOf e.key).toList (strOf e'.key).toList || (strOf e.key).toList == (strOf e'.key).toList)=false:=by rw[strOf_toList,strOf_toList,bytes_less];exact hke
        simp only[strOf_toList] at hlq;have hlq1:=(Bool.or_eq_false_iff.1 hlq).1;have hlq2:=(Bool.or_eq_false_iff.1 hlq).2;cases hfn:fineB e.v with
        | false=>
         rw[hfn] at F;have HF:Hid (nodeB true l=false):=Hd (HNS.out (by rw[HST.out];simp[valOkN,hfn]));exact qbe6c73
        | true=>
         rw[hfn] at F;have HU:Hid (upN true l (k+1)=true):=Hd (by rw[HUS.out,HST.out];simp[hke,hk1p,hkb,keyOkN,valOkN,hfn])
         go_wp2_with (first|(go_at_call 183;(with_reducible refine(F _).mono ?_);rintro en w7 ⟨rfl,hb7⟩;have hC7:=below_then hbw6 hb7;have B7:=B6.step hb7;have f0:=B7.cell 0 0 rfl rfl;have f1:=B7.cell 0 1 rfl rfl;have f2:=B7.cell 0 2 rfl rfl;have f3:=B7.cell 0 3 rfl rfl;have f4:=B7.cell 1 0 rfl rfl))
         have B8:=B7.sub (m:=[(w.heap.size,[.bool true,.slice (some ⟨b,off,none⟩) len cap])]) (by intro p hp;simp at hp;subst hp;simp);clear f0 f1 f2 f3 f4;go_roundw
         case rel=>exact⟨k+1,by omega,by go_num,HU.out,B8,hC7⟩
         case measure=>simp[intOf];omega
   | false=>
    by_cases hk0:k=0
    ·subst hk0
     simp only[Nat.zero_mul,Nat.add_zero] at e0 e1 e2 e3 e4
     by_cases hkn:e.key=[]
     ·have hfb:firstB 0 e.key=true:=by rw[hkn];rfl
      simp only[hkn] at e0 hsz
      by_cases hp1:e.v.page<2
      ·have q1:decide (e.v.page<2)=true:=by simpa using hp1
       exact q4419a1
      ·have q1:decide (e.v.page<2)=false:=by simpa using hp1
       by_cases hp2:999<e.v.page
       ·have q2:decide (999<e.v.page)=true:=by simpa using hp2
        exact q4419a1
       ·have q2:decide (999<e.v.page)=false:=by simpa using hp2
        have hpb:pageB e.v.page=true:=by simp[pageB];omega
        have hv:=fun W=>vneq_page e.v W
        have hvq:(e.v == ⟨[],false,0,e.v.page⟩) = !(e.v != ⟨[],false,0,e.v.page⟩):=by simp[bne]
        generalize (e.v != ⟨[],false,0,e.v.page⟩)=vb at *;cases vb with
        | true=>
         have HF:Hid (nodeB false l=false):=Hd (HNS.out (by rw[HST.out];simp[valOkN,hvq]));exact qbe6c73
        | false=>
         have HU:Hid (upN false l (0+1)=true):=Hd (by rw[HUS.out,HST.out];simp[hfb,keyOkN,valOkN,hpb,hvq])
         go_wp2_with (first|(go_at_call 183;(with_reducible refine(F _).mono ?_);rintro en w7 ⟨rfl,hb7⟩;have hC7:=below_then hbw6 hb7;have B7:=B6.step hb7;have f0:=B7.cell 0 0 rfl rfl;have f1:=B7.cell 0 1 rfl rfl;have f2:=B7.cell 0 2 rfl rfl;have f3:=B7.cell 0 3 rfl rfl;have f4:=B7.cell 1 0 rfl rfl))
         have B8:=B7.sub (m:=[(w.heap.size,[.bool false,.slice (some ⟨b,off,none⟩) len cap])]) (by intro p hp;simp at hp;subst hp;simp);clear f0 f1 f2 f3 f4;go_roundw
         case rel=>exact⟨0+1,by omega,by go_num,HU.out,B8,hC7⟩
         case measure=>simp[intOf];omega
     ·have hkn2:(e.key == [])=false:=by simpa using hkn
      have hfb:firstB 0 e.key=false:=hkn2;have HF:Hid (nodeB false l=false):=Hd (HNS.out (by rw[HST.out];simp[keyOkN,hfb]));exact q0ddb2b
    ·obtain⟨p,hp1,hp2⟩:∃p,p+1=k∧p<len:=⟨k-1,by omega,by omega⟩
     obtain⟨b2,off2,e',hq,hb2l,hy2,hc',_⟩:=(h.below (Nat.le_refl _) hbw).at hp2;cases hq;have hg2:l[k-1]?.getD ⟨[],Vv.zero⟩=e':=by rw[show k-1=p by omega,hy2];rfl
     rw[hg2] at HST;have hk1:decide ((0:Int)<(k:Int))=true:=by simp;omega
     have hk1n:decide (0<k)=true:=by simp;omega
     have hk1p:0<k:=by omega
     have hk1z:((k:Int) == 0)=false:=by simp;omega
     have hpp:(0:Int)≤(p:Int)∧(p:Int)<(len:Int):=by omega
     have hsub:(k:Int)-1=(p:Int):=by omega
     have hp6:=(hb6.cell (p:=⟨b,off+p*5,none⟩) hb2l).trans hc';clear hg2 hy2 hb2l
     by_cases hkn:e.key=[]
     ·have hkb:keyB e.key=false:=by rw[hkn];rfl
      have HF:Hid (nodeB false l=false):=Hd (HNS.out (by rw[HST.out];simp[keyOkN,firstB,hk0,hkb]));simp only[hkn] at e0 hsz;exact q0ddb2b
     ·have hkn2:(e.key == [])=false:=by simpa using hkn
      by_cases hk16:16<e.key.length
      ·have q16:decide ((16:Int)<(e.key.length:Int))=true:=by simp;omega
       have hkb:keyB e.key=false:=by simp[keyB];omega
       have HF:Hid (nodeB false l=false):=Hd (HNS.out (by rw[HST.out];simp[keyOkN,firstB,hk0,hkb]));exact q0ddb2b
      ·have q16:decide ((16:Int)<(e.key.length:Int))=false:=by simp;omega
       have hkb:keyB e.key=true:=by simp[keyB,hkn];omega
       cases hke:kle e.key e'.key with
       | true=>
        have hlq:(Op.bytesLess (strOf e.key).toList (strOf e'.key).toList || (strOf e.key).toList == (strOf e'.key).toList)=true:=by rw[strOf_toList,strOf_toList,bytes_less];exact hke
        simp only[strOf_toList] at hlq;have HF:Hid (nodeB false l=false):=Hd (HNS.out (by rw[HST.out];simp[hke,hk1p]));clear hp1;exact q0ddb2b
       | false=>
        have hlq:(Op.bytesLess (strOf e.key).toList (strOf e'.key).toList || (strOf e.key).toList == (strOf e'.key).toList)=false:=by rw[strOf_toList,strOf_toList,bytes_less];exact hke
        simp only[strOf_toList] at hlq;have hlq1:=(Bool.or_eq_false_iff.1 hlq).1;have hlq2:=(Bool.or_eq_false_iff.1 hlq).2
        by_cases hp1:e.v.page<2
        ·have q1:decide (e.v.page<2)=true:=by simpa using hp1
         exact q4419a1
        ·have q1:decide (e.v.page<2)=false:=by simpa using hp1
         by_cases hp2:999<e.v.page
         ·have q2:decide (999<e.v.page)=true:=by simpa using hp2
          exact q4419a1
         ·have q2:decide (999<e.v.page)=false:=by simpa using hp2
          have hpb:pageB e.v.page=true:=by simp[pageB];omega
          have hv:=fun W=>vneq_page e.v W
          have hvq:(e.v == ⟨[],false,0,e.v.page⟩) = !(e.v != ⟨[],false,0,e.v.page⟩):=by simp[bne]
          generalize (e.v != ⟨[],false,0,e.v.page⟩)=vb at *;cases vb with
          | true=>
           have HF:Hid (nodeB false l=false):=Hd (HNS.out (by rw[HST.out];simp[valOkN,hvq]));exact qbe6c73
          | false=>
           have HU:Hid (upN false l (k+1)=true):=Hd (by rw[HUS.out,HST.out];simp[hke,hk1p,hkb,keyOkN,firstB,hk0,valOkN,hpb,hvq])
           go_wp2_with (first|(go_at_call 183;(with_reducible refine(F _).mono ?_);rintro en w7 ⟨rfl,hb7⟩;have hC7:=below_then hbw6 hb7;have B7:=B6.step hb7;have f0:=B7.cell 0 0 rfl rfl;have f1:=B7.cell 0 1 rfl rfl;have f2:=B7.cell 0 2 rfl rfl;have f3:=B7.cell 0 3 rfl rfl;have f4:=B7.cell 1 0 rfl rfl))
           have B8:=B7.sub (m:=[(w.heap.size,[.bool false,.slice (some ⟨b,off,none⟩) len cap])]) (by intro p hp;simp at hp;subst hp;simp);clear f0 f1 f2 f3 f4;go_roundw
           case rel=>exact⟨k+1,by omega,by go_num,HU.out,B8,hC7⟩
           case measure=>simp[intOf];omega
  ·obtain rfl:k=len:=by omega
   have hup2:upN leaf l l.length=true:=by rw[hll.out];exact hup
   have hsm:=HI.out;have hr:=h.below (Nat.le_refl _) hbw;have hlens:=cellsN_lens leaf 1000000 l (fun e he=>(hsm e he).2);rw[hll.out] at hlens;have CE:=rcells_any leaf a k cap l wr hr hlen hsm;have CS:∀W a2 n2 c2,n2=(cellsN leaf l).length→Strs W a2 n2 c2 (cellsN leaf l)→Calls Tryz.prog 184 #[.slice a2 n2 c2] W fun e w'=>e=.returned (.int .i64 ((k+lens (cellsN leaf l):Nat):Int))∧W=w':=fun W a2 n2 c2 h1 h2=>by
    have hk2:n2=k:=by rw[h1,cellsN_length,hll.out]
    subst hk2;exact rsize_any a2 n2 c2 (cellsN leaf l) W h2 (by omega)
   have hN:nodeB leaf l=(decide (leastN leaf≤k) && decide (k+lens (cellsN leaf l)≤122)):=by rw[nodeB,hup2,hll.out];rfl
   have HN:=Hd hN;have HCS:=Hd CS;have HBX:=Hd BX;have hcl:=cellsN_length leaf l;rw[hll.out] at hcl;have HCL:=Hd hcl;generalize hls:lens (cellsN leaf l)=ls at *;clear hls hN hup hup2 hsm hlens hr CS BX hcl;go_wp2_with fail;refine CE.mono ?_;rintro e w7 ⟨v7,rfl,ho7,hb7⟩;obtain⟨a7,c7,rfl,hs7⟩:=Strs.of_own ho7;have hb8:=below_then hbw hb7;have B7:=HBX.out.step hb7;have d4:=B7.cell 0 0 rfl rfl;have d5:=B7.cell 0 1 rfl rfl;clear d0 d1 CE hb7 ho7 B7;go_wp2_with fail;refine(HCS.out _ _ _ _ rfl hs7).mono ?_;rintro e w9 ⟨rfl,rfl⟩;clear hs7
   by_cases h122:k+ls≤122
   ·have q1:decide (((k+ls:Nat):Int)≤122)=true:=by simp;omega
    have q2:decide ((k:Int)+(ls:Int)≤122)=true:=by simp;omega
    have q3:(k:Int)+(ls:Int)≤122:=by omega
    have hT:decide (k+ls≤122)=true:=by simpa using h122
    cases leaf with
    | false=>
     by_cases h1:1<k
     ·have r1:decide ((1:Int)<(k:Int))=true:=by simp;omega
      have HF:Hid (nodeB false l=true):=Hd (by rw[HN.out,hT];simp[leastN];omega);exact q432908
     ·have r1:decide ((1:Int)<(k:Int))=false:=by simp;omega
      have HF:Hid (nodeB false l=false):=Hd (by rw[HN.out,hT];simp[leastN];omega);exact q432908
    | true=>
     by_cases h1:1<k
     ·have r1:decide ((1:Int)<(k:Int))=true:=by simp;omega
      have HF:Hid (nodeB true l=true):=Hd (by rw[HN.out,hT];simp[leastN];omega);exact q432908
     ·have r1:decide ((1:Int)<(k:Int))=false:=by simp;omega
      have HF:Hid (nodeB true l=((k:Int) == 1)):=Hd (by
       rw[HN.out,hT,Bool.and_true]
       by_cases h2:k=1
       ·subst h2;rfl
       ·have:k=0:=by omega
        subst this;rfl)
      exact q432908
   ·have q1:decide (((k+ls:Nat):Int)≤122)=false:=by simp;omega
    have q2:decide ((k:Int)+(ls:Int)≤122)=false:=by simp;omega
    have hT:decide (k+ls≤122)=false:=by simpa using h122
    have HF:Hid (nodeB leaf l=false):=Hd (by rw[HN.out,hT,Bool.and_false]);exact q432908
open Go.RowKit
open Go.RowKit
def OwnRe (w:World) (base:Nat) (v:Value) (l:List En):Prop:=w.ownsRow base 226 5 v l.length (l.flatMap ecells)
theorem OwnRe.ents {w:World} {base:Nat} {v:Value} {l:List En} (h:OwnRe w base v l):∃a cap,v=.slice a l.length cap∧NEnts w a l.length cap l:=
 TabR.of_own ecells (fun _=>rfl) (fun _=>rfl) h
theorem info_re:(Tryz.prog.info? 226).map (fun i=>(i.zero,i.size,i.bytes))=some (some (.agg #[.string ⟨#[]⟩,.string ⟨#[]⟩,.bool false,.int .i64 0,.int .i64 0]),5,56):=by kernel_rfl
open Go.RowKit
theorem zero_refN (w:World):(zeroValue 27).run Tryz.prog w=.ok (.agg #[.int .i64 0,.bool false,.slice none 0 0]) w:=by kernel_rfl
theorem zero_refC (w:World):(zeroValue 145).run Tryz.prog w=.ok (.agg #[.string ⟨#[]⟩,.string ⟨#[]⟩,.slice none 0 0,.slice none 0 0]) w:=by kernel_rfl
def st3 (w:World) (b:Nat) (y0 y1 y2:Value):World:=((w.setCell ⟨b,0,none⟩ y0).setCell ⟨b,1,none⟩ y1).setCell ⟨b,2,none⟩ y2
theorem st3_box {w:World} {b:Nat} {x0 x1 x2:Value} (h:Boxes w [(b,[x0,x1,x2])]) (y0 y1 y2:Value):Boxes (st3 w b y0 y1 y2) [(b,[y0,y1,y2])]:=
 ((h.put 0 y0 (by intro q hq;simp at hq)).put 1 y1 (by intro q hq;simp at hq)).put 2 y2 (by intro q hq;simp at hq)
theorem st3_only (w:World) (b:Nat) (y0 y1 y2:Value):Only [b] w (st3 w b y0 y1 y2):=(((Only.refl _ _).set _ _ (by simp)).set _ _ (by simp)).set _ _ (by simp)
end Go.Proofs.YtpghlmcoajaiiaaGreatDoor
