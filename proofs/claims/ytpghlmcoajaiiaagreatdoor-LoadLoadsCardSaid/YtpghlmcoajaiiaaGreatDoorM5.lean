/- Texts that other texts of this claim lean on, one behind the other. -/
import Derived.Test.YtpghlmcoajaiiaaGreatDoorM2
import Derived.Test.YtpghlmcoajaiiaaGreatDoorM3
import Derived.Test.YtpghlmcoajaiiaaGreatDoorM4
import Derived.Test.YtpghlmcoajaiiaaGreatDoorM1
import Derived.Deep.Slices
import Derived.ProofKit
import Derived.ChangeOld
import Derived.Deep.RegionLaw
import Derived.Deep.RegionWith
import Derived.Laws.CopyOwn
import Derived.Outline
import Derived.Maps.AppendAt
import Derived.Laws.OwnMore
import Derived.Deep.AppendLies
import Derived.RegionTactic
import Derived.OwnWalk
set_option maxHeartbeats 20000000
set_option maxRecDepth 100000
namespace Go.Proofs.YtpghlmcoajaiiaaGreatDoor
open Go.RowKit
theorem size_bytes (w:World):(sizeOf (Tryz.prog.elem 42)).run Tryz.prog w=.ok 1 w:=by kernel_rfl
theorem elem_bytes:Tryz.prog.underlying 42=some (.slice (Tryz.prog.elem 42)):=by kernel_rfl
def Tk (w:World) (t:Nat) (s:TSt):Prop:=
 ∃a cap,w.heap[t]? = some (.cells #[.slice a s.l.length cap,.int .i64 s.e] 231 (0,0))∧Bs w a s.l.length cap s.l
theorem Tk.lt {w:World} {t:Nat} {s:TSt} (h:Tk w t s):t<w.heap.size:=by
 obtain⟨a,cap,h1,_⟩:=h;exact(Array.getElem?_eq_some_iff.1 h1).1
theorem bs_ne {w:World} {t:Nat} {a b:Option Addr} {n m len cap:Nat} {e:Int} {T:TypeId} {l:List UInt8} (h1:w.heap[t]? = some (.cells #[.slice b n m,.int .i64 e] T (0,0))) (h2:Bs w a len cap l) :
 ∀b off,len≠0→a=some ⟨b,off,none⟩→some t≠some b:=by
 intro b off hl ha hb;cases hb;obtain⟨b',off',e1,_,h7⟩:=h2.cell (k:=0) (by omega);rw[ha] at e1;cases e1;have:=h7 0 (by omega);simp only[World.cell?,h1,Nat.add_zero] at this
 match off,this with
 | 0,this=>simp at this
 | 1,this=>simp at this
 | n+2,this=>simp at this
theorem Tk.grown {w w':World} {t:Nat} {s:TSt} {row:Option Nat} (h:Tk w t s) (hg:w.grownBy w' row) (hne:row≠some t) (hb:∀a n m b off,w.heap[t]? = some (.cells #[.slice a n m,.int .i64 s.e] 231 (0,0))→s.l.length≠0→a=some ⟨b,off,none⟩→row≠some b):Tk w' t s:=by
 obtain⟨a,cap,h1,h2⟩:=h;exact⟨a,cap,(hg.block t (Array.getElem?_eq_some_iff.1 h1).1 (fun e=>hne e.symm)).trans h1,h2.grown hg (fun b off h3 h4=>hb a _ _ b off h1 h3 h4)⟩
theorem Tk.below {w w':World} {t:Nat} {s:TSt} {B:Nat} (hB:w.heap.size≤B) (hb:Below B w w') (h:Tk w t s):Tk w' t s:=by
 obtain⟨a,cap,h1,h2⟩:=h;exact⟨a,cap,(hb.block t (Nat.lt_of_lt_of_le (Array.getElem?_eq_some_iff.1 h1).1 hB)).trans h1,h2.below hB hb⟩
def TkPost (w:World) (t:Nat) (R:World→Value→Prop) (s':TSt) (e:Ending) (w':World):Prop:=
 ∃v,e=.returned v∧R w' v∧w.grownBy w' (some t)∧Tk w' t s'
theorem beVal_step (l:List UInt8) (k:Nat) (h:k<l.length):beVal (l.take (k+1))=beVal (l.take k)*256+(l[k]?.getD 0).toNat:=by
 rw[List.take_add_one,List.getElem?_eq_getElem h];exact beVal_snoc _ _
theorem num1_any (a:Option Addr) (len cap:Nat) (l:List UInt8) (w:World) (h:Bs w a len cap l) (h8:len≤8) :
 Calls Tryz.prog 106 #[.slice a len cap] w fun e w'=>e=.returned (.int .u64 (beVal l))∧w=w':=by
 have hll:=Hd h.len;have hm:=h.cap.2;have hc:=h.cap.1;unfold maxLen at hm;go_enter Tryz.func106,Tryz.ntmps106
 go_wp2
 go_loop [3,8] (fun x i=>∃k:Nat,k≤len∧i=.int .i64 k∧x=.int .u64 (beVal (l.take k))) (fun _ i=>len-(intOf i).toNat)
 case atStart=>exact⟨0,Nat.zero_le _,rfl,rfl⟩
 case round=>
  obtain⟨k,hk,rfl,rfl⟩:=hrel
  by_cases hlt:k<len
  ·obtain⟨b,off,rfl,hb,hcell⟩:=h.cell hlt
   have hck:=hcell k hlt;have hst:=beVal_step l k (by rw[hll.out];exact hlt);have hbd:beVal (l.take k)<72057594037927936:=by
    have h1:=beVal_lt (l.take k);have h2:(l.take k).length≤7:=by simp;omega
    have h3:256 ^ (l.take k).length≤256 ^ 7:=Nat.pow_le_pow_right (by decide) h2;omega
   have hcb:=(l[k]?.getD 0).toNat_lt;generalize (l[k]?.getD 0).toNat=c at *;generalize beVal (l.take k)=x at *;have H:=Hd hst;clear hst hcell;have hor:=or256 x c hbd hcb;exact q931089
  ·obtain rfl:k=len:=by omega
   have hx:l.take k=l:=List.take_of_length_le (by rw[hll.out];exact Nat.le_refl _);rw[hx];clear hx;exact q72c811
theorem text1_any (a:Option Addr) (len cap:Nat) (l:List UInt8) (w:World) (h:Bs w a len cap l) :
 Calls Tryz.prog 108 #[.slice a len cap] w fun e w'=>e=.returned (.string (strOf l))∧w=w':=by
 have hcv:=conv_string Tryz.underlying42 Tryz.underlying5 Tryz.underlying9 h;go_enter Tryz.func108,Tryz.ntmps108;exact q72c811
theorem clone_any (a:Option Addr) (len cap:Nat) (l:List UInt8) (w:World) (h:Bs w a len cap l) (hreach:len≤140737488351232) :
 Calls Tryz.prog 104 #[.slice a len cap] w (OwnBytes 5 w l):=by
 obtain⟨i0,hi,hz0,hz1,hz2⟩:=info_parts info_u8;have hll:=Hd h.len;cases a with
 | none=>
  have hc:=h.2.2.2.1 rfl;have h0:len=0:=by have:=h.2.1;omega
  subst hc h0;have hl0:l=[]:=List.eq_nil_of_length_eq_zero h.len;have HL:=Hd hl0;clear hl0;have hq:∀W:World,(binOp .eql 42 (.slice none 0 0) (.slice none 0 0)).run Tryz.prog W=.ok (.bool true) W:=fun W=>Lib.run_eql_slice_nil W _ _ none 0 0 0 0 Tryz.underlying42
  go_enter Tryz.func104,Tryz.ntmps104
  go_wp2
  go_ret;exact⟨_,rfl,by rw[HL.out];exact⟨rfl,.inl ⟨rfl,rfl⟩⟩,Below.refl _ _⟩
 | some x=>
  have hm:=h.cap.2;unfold maxLen at hm;have hq:∀W:World,(binOp .eql 42 (.slice (some x) len cap) (.slice none 0 0)).run Tryz.prog W=.ok (.bool false) W:=fun W=>Lib.run_eql_slice_nil W _ _ (some x) len cap 0 0 Tryz.underlying42
  go_enter Tryz.func104,Tryz.ntmps104;exact q8f9fd8
end Go.Proofs.YtpghlmcoajaiiaaGreatDoor
namespace Go.Proofs.YtpghlmcoajaiiaaGreatDoor
open Go.RowKit Go.Deep Go.WideShapes
def TabR {α:Type} (sz:Nat) (R:List Value→α→Prop) (w:World) (a:Option Addr) (len cap:Nat) (l:List α):Prop:=
 l.length=len∧len≤cap∧cap≤maxLen∧(a=none→cap=0)∧(len=0∨∃b off,a=some ⟨b,off,none⟩∧b<w.heap.size ∧
  ∀i y,l[i]? = some y→∃cs,cs.length=sz∧R cs y∧∀j v,cs[j]? = some v→w.cell? ⟨b,off+i*sz+j,none⟩=some v)
theorem TabR.mono {α:Type} {sz:Nat} {R R':List Value→α→Prop} {w:World} {a:Option Addr} {len cap:Nat} {l:List α} (h:TabR sz R w a len cap l) (hR:∀cs y,R cs y→R' cs y):TabR sz R' w a len cap l:=by
 obtain⟨h1,h2,h3,hn,h4⟩:=h;refine⟨h1,h2,h3,hn,?_⟩
 rcases h4 with h4|⟨b,off,h5,h6,h7⟩
 ·exact .inl h4
 ·exact .inr ⟨b,off,h5,h6,fun i y hy=>by obtain⟨cs,c1,c2,c3⟩:=h7 i y hy;exact⟨cs,c1,hR _ _ c2,c3⟩⟩
theorem TabR.below {α:Type} {sz:Nat} {R:List Value→α→Prop} {w w':World} {a:Option Addr} {len cap:Nat} {l:List α} {B:Nat} (hB:w.heap.size≤B) (hb:Below B w w') (h:TabR sz R w a len cap l):TabR sz R w' a len cap l:=by
 obtain⟨h1,h2,h3,hn,h4⟩:=h;refine⟨h1,h2,h3,hn,?_⟩
 rcases h4 with h4|⟨b,off,h5,h6,h7⟩
 ·exact .inl h4
 ·exact .inr ⟨b,off,h5,by have:=hb.size;omega,fun i y hy=>by
   obtain⟨cs,c1,c2,c3⟩:=h7 i y hy;exact⟨cs,c1,c2,fun j v hv=>(hb.cell (p:=⟨b,off+i*sz+j,none⟩) (by simp;omega)).trans (c3 j v hv)⟩⟩
theorem TabR.at {α:Type} {sz:Nat} {R:List Value→α→Prop} {w:World} {a:Option Addr} {len cap:Nat} {l:List α} (h:TabR sz R w a len cap l) {k:Nat} (hk:k<len) :
 ∃b off y cs,a=some ⟨b,off,none⟩∧b<w.heap.size∧l[k]? = some y∧cs.length=sz∧R cs y∧∀j v,cs[j]? = some v→w.cell? ⟨b,off+k*sz+j,none⟩=some v:=by
 obtain⟨h1,h2,h3,hn,h4⟩:=h
 rcases h4 with h4|⟨b,off,h5,h6,h7⟩
 ·omega
 ·have hy:l[k]? = some l[k]:=List.getElem?_eq_getElem (by omega)
  obtain⟨cs,c1,c2,c3⟩:=h7 k _ hy;exact⟨b,off,_,cs,h5,h6,hy,c1,c2,c3⟩
theorem add_none (b off j:Nat):(⟨b,off,none⟩:Addr).add j=⟨b,off+j,none⟩:=by unfold Addr.add;split<;>simp_all
section
variable {H:Type} {enc:TypeId×Value→H} {P:Program} {w:World} {base:Nat}
theorem open_tab {α:Type} {t e:TypeId} {sz:Nat} (ht:P.underlying t=some (.slice e)) (hsz:P.cellsOf e=sz) (hpos:0<sz) (R:List Value→α→Prop)
 (hR:∀n cs x,cs.length=sz→DataW.trod enc P w 0 (fun _=>true) true n e cs=some x→∃y,R cs y)
 {v:Value} {d:DataW H} {p:List MemPlace} (hv:Value.okWide P w .any base t v) (h:DataW.Trod enc P w 0 (fun _=>true) true t v d p) :
 ∃a len cap l,v=.slice a len cap∧TabR sz R w a len cap l:=by
 obtain⟨a,len,cap,rfl⟩:=okWide_slice ht hv;obtain⟨fuel,hf⟩:=h
 rcases open_slice ht hf with⟨hcs,_⟩|⟨x,len',cap',m,n,D,Pl,hcs,_,hl,hm,hmm,_,hx⟩
 ·simp[Value.cells] at hcs
  obtain⟨rfl,rfl,rfl⟩:=hcs;exact⟨none,0,0,[],rfl,rfl,Nat.le_refl _,by unfold maxLen;omega,fun _=>rfl,.inl rfl⟩
 ·simp[Value.cells] at hcs
  obtain⟨rfl,rfl,rfl⟩:=hcs;have hlm:len≤m:=by rw[hmm];exact hl
  rw[hsz] at hx;have each:∀i,i<len→∃q:α×List Value,q.2.length=sz∧R q.2 q.1∧∀j,j<sz→w.cell? ((x.add (i*sz)).add j)=q.2[j]? := by
   intro i hi;obtain⟨cs',h1,h2⟩:=hx i (by omega);obtain⟨_,hlen,hcell⟩:=World.cells?_some h1;obtain⟨y,hy⟩:=hR n cs' _ hlen h2;exact⟨(y,cs'),hlen,hy,hcell⟩
  by_cases h0:len=0
  ·subst h0
   exact⟨_,0,cap,[],rfl,rfl,hl,hm,(fun h=>by cases h),.inl rfl⟩
  ·obtain⟨q0,g1,_,g3⟩:=each 0 (by omega)
   haveI:Inhabited (α×List Value):=⟨q0⟩
   obtain⟨q,hq⟩:=choose_lt each;have g4:=g3 0 hpos;obtain⟨v0,hv0⟩:∃v0,q0.2[0]? = some v0:=⟨_,List.getElem?_eq_getElem (by omega)⟩
   rw[hv0] at g4;obtain⟨b,off,spot⟩:=x;have hspot:spot=none:=by
    have:=World.cell?_spot g4;simp[Addr.add] at this;exact this
   subst hspot;simp only[add_none] at hq g4;refine⟨_,len,cap,(List.range len).map fun i=>(q i).1,rfl,by simp,hl,hm,(fun h=>by cases h),.inr ⟨b,off,rfl,?_,fun i y hy=>?_⟩⟩
   ·by_cases hb:b<w.heap.size
    ·exact hb
    ·simp only[World.cell?] at g4
     rw[Array.getElem?_eq_none (show w.heap.size≤b by omega)] at g4;simp at g4
   ·have hi:i<len:=by
     have:=(List.getElem?_eq_some_iff.1 hy).1;simpa using this
    obtain⟨c1,c2,c3⟩:=hq i hi;have hy':y=(q i).1:=by
     simp[hi] at hy;exact hy.symm
    subst hy';refine⟨(q i).2,c1,c2,fun j v hv=>?_⟩;have hj:j<sz:=by rw[←c1];exact(List.getElem?_eq_some_iff.1 hv).1
    rw[c3 j hj];exact hv
end
end Go.Proofs.YtpghlmcoajaiiaaGreatDoor
namespace Go.Proofs.YtpghlmcoajaiiaaGreatDoor
open Go.RowKit
theorem equal_any (a:Option Addr) (n cap:Nat) (l:List UInt8) (b:Option Addr) (m cap2:Nat) (r:List UInt8) (w:World) (h1:Bs w a n cap l) (h2:Bs w b m cap2 r) :
 Calls Tryz.prog 173 #[.slice a n cap,.slice b m cap2] w fun e w'=>e=.returned (.bool (l == r))∧w=w':=by
 have c1:=conv_string Tryz.underlying42 Tryz.underlying5 Tryz.underlying9 h1;have c2:=conv_string Tryz.underlying42 Tryz.underlying5 Tryz.underlying9 h2;have hst:=strOf_toList;go_enter Tryz.func173,Tryz.ntmps173;exact q72c811
theorem bclone_any (a:Option Addr) (len cap:Nat) (l:List UInt8) (w:World) (h:Bs w a len cap l) (hreach:len≤140737488351232) :
 Calls Tryz.prog 171 #[.slice a len cap] w (OwnBytes 5 w l):=by
 obtain⟨i0,hi,hz0,hz1,hz2⟩:=info_parts info_u8;have hll:=Hd h.len;cases a with
 | none=>
  have hc:=h.2.2.2.1 rfl;have h0:len=0:=by have:=h.2.1;omega
  subst hc h0;have hl0:l=[]:=List.eq_nil_of_length_eq_zero h.len;have HL:=Hd hl0;clear hl0;have hq:∀W:World,(binOp .eql 42 (.slice none 0 0) (.slice none 0 0)).run Tryz.prog W=.ok (.bool true) W:=fun W=>Lib.run_eql_slice_nil W _ _ none 0 0 0 0 Tryz.underlying42
  go_enter Tryz.func171,Tryz.ntmps171
  go_wp2
  go_ret;exact⟨_,rfl,by rw[HL.out];exact⟨rfl,.inl ⟨rfl,rfl⟩⟩,Below.refl _ _⟩
 | some x=>
  have hm:=h.cap.2;unfold maxLen at hm;have hq:∀W:World,(binOp .eql 42 (.slice (some x) len cap) (.slice none 0 0)).run Tryz.prog W=.ok (.bool false) W:=fun W=>Lib.run_eql_slice_nil W _ _ (some x) len cap 0 0 Tryz.underlying42
  go_enter Tryz.func171,Tryz.ntmps171;exact q8f9fd8
def IsBs (w:World) (cs:List Value) (y:List UInt8):Prop:=∃a n cap,cs=[.slice a n cap]∧Bs w a n cap y
def Bss (w:World) (a:Option Addr) (len cap:Nat) (l:List (List UInt8)):Prop:=TabR 1 (IsBs w) w a len cap l
theorem Bss.below {w w':World} {a:Option Addr} {len cap:Nat} {l:List (List UInt8)} {B:Nat} (hB:w.heap.size≤B) (hb:Below B w w') (h:Bss w a len cap l):Bss w' a len cap l:=
 (TabR.below hB hb h).mono fun _ _ ⟨a,n,c,e,h⟩=>⟨a,n,c,e,h.below hB hb⟩
theorem Bss.at {w:World} {a:Option Addr} {len cap:Nat} {l:List (List UInt8)} (h:Bss w a len cap l) {k:Nat} (hk:k<len) :
 ∃b off a' n' cap',a=some ⟨b,off,none⟩∧b<w.heap.size∧w.cell? ⟨b,off+k,none⟩=some (.slice a' n' cap')∧Bs w a' n' cap' (l[k]?.getD []):=by
 obtain⟨b,off,y,cs,e1,e2,e3,_,⟨a',n',cap',rfl,e5⟩,e6⟩:=TabR.at h hk;refine⟨b,off,a',n',cap',e1,e2,?_,by rw[e3];exact e5⟩;have:=e6 0 _ rfl;simpa using this
def IsStr (cs:List Value) (y:List UInt8):Prop:=cs=[.string (strOf y)]
def Strs (w:World) (a:Option Addr) (len cap:Nat) (l:List (List UInt8)):Prop:=TabR 1 IsStr w a len cap l
theorem Strs.at {w:World} {a:Option Addr} {len cap:Nat} {l:List (List UInt8)} (h:Strs w a len cap l) {k:Nat} (hk:k<len) :
 ∃b off,a=some ⟨b,off,none⟩∧b<w.heap.size∧w.cell? ⟨b,off+k,none⟩=some (.string (strOf (l[k]?.getD []))):=by
 obtain⟨b,off,y,cs,e1,e2,e3,_,e5,e6⟩:=TabR.at h hk;subst e5;have:=e6 0 _ rfl;refine⟨b,off,e1,e2,?_⟩;rw[e3];simpa using this
theorem csize_any (a:Option Addr) (len cap:Nat) (l:List (List UInt8)) (w:World) (h:Bss w a len cap l) (hb:len+lens l≤9223372036854775807) :
 Calls Tryz.prog 175 #[.slice a len cap] w fun e w'=>e=.returned (.int .i64 ((len+lens l:Nat):Int))∧w=w':=by
 have hll:=Hd h.1;have hm:=h.2.2.1;have hc:=h.2.1;unfold maxLen at hm;go_enter Tryz.func175,Tryz.ntmps175
 go_wp2
 go_loop [3,10] (fun s i=>∃k:Nat,k≤len∧i=.int .i64 k∧s=.int .i64 ((len+lens (l.take k):Nat):Int)) (fun _ i=>len-(intOf i).toNat)
 case atStart=>exact⟨0,Nat.zero_le _,rfl,by simp[lens]⟩
 case round=>
  obtain⟨k,hk,rfl,rfl⟩:=hrel
  by_cases hlt:k<len
  ·obtain⟨b,off,a',n',cap',rfl,hbb,hcell,hbs⟩:=h.at hlt
   have hst:=lens_take_succ l k (by rw[hll.out];exact hlt);have hle:=lens_take_le l (k+1);rw[hbs.len] at hst;have hst2:len+lens (l.take (k+1))=len+lens (l.take k)+n':=by omega
   have hle2:len+lens (l.take k)+n'≤9223372036854775807:=by omega
   have H:=Hd hst2;clear hst hst2 hle;generalize len+lens (l.take k)=q at *;exact q931089
  ·obtain rfl:k=len:=by omega
   exact q7b2129
def Page (w:World) (g:Nat) (l:List UInt8):Prop:=w.heap[g]? = some (.cells ((toI l).map (Value.int .u8)).toArray 121 (0,0))
theorem zero_cells:Tryz.zeroCells121=((toI (List.replicate 128 (0:UInt8))).map (Value.int .u8)).toArray:=by kernel_rfl
theorem Page.cell {w:World} {g:Nat} {l:List UInt8} (h:Page w g l) {i:Nat} (hi:i<l.length):w.cell? ⟨g,i,none⟩=some (.int .u8 ((l[i]?.getD 0).toNat:Int)):=by
 have e:(((toI l).map (Value.int .u8)).toArray)[i]? = some (.int .u8 ((l[i]?.getD 0).toNat:Int)):=by simp[toI,hi]
 simp only[World.cell?,show w.heap[g]? = _ from h];exact e
theorem Page.frozen {w:World} {g:Nat} {l:List UInt8} (h:Page w g l) (i:Nat):w.frozen? ⟨g,i,none⟩=false:=by simp[World.frozen?,show w.heap[g]? = _ from h]
theorem Page.set {w:World} {g:Nat} {l:List UInt8} (h:Page w g l) (i:Nat) (n:Nat) (hn:n<256):Page (w.setCell ⟨g,i,none⟩ (.int .u8 (n:Int))) g (l.set i (UInt8.ofNat n)):=by
 have e1:=heap_setCell_at i (.int .u8 (n:Int)) h;have e2:(UInt8.ofNat n).toNat=n:=by rw[UInt8.toNat_ofNat'];omega
 unfold Page;rw[e1];simp[toI,List.map_set,e2]
theorem page_under:Tryz.prog.underlying 121=some (.array (Tryz.prog.arrayLen 121) (Tryz.prog.elem 121)):=by kernel_rfl
theorem page_len:Tryz.prog.arrayLen 121=128:=by kernel_rfl
theorem page_size (w:World):(sizeOf (Tryz.prog.elem 121)).run Tryz.prog w=.ok 1 w:=by kernel_rfl
theorem page_from (g e:Nat) (he:e≤128):∃a2:Addr,(e<128→a2=⟨g,e,none⟩) ∧
 ∀(k:IntKind) (w:World),(Instr.sliceAt 121 (.pointer (some ⟨g,0,none⟩)) (some (.int k (e:Int))) none none).run Tryz.prog w=.ok (.slice (some a2) (128-e) (128-e)) w:=by
 refine⟨if 128=e then ⟨g,0,none⟩ else (⟨g,0,none⟩:Addr).add (e*1),fun h=>by rw[if_neg (by omega),add_none];simp,fun k w=>?_⟩;rw[run_sliceAt_array_l w _ _ page_under k e (by omega) (by rw[page_len];omega),page_size,page_len]
 rfl
theorem Page.row {w:World} {g:Nat} {l:List UInt8} (h:Page w g l) (hl:l.length=128):Bs w (some ⟨g,0,none⟩) 128 128 l:=
 ⟨by rw[toI_length,hl],Nat.le_refl _,by unfold maxLen;omega,(fun h=>by cases h),.inr ⟨g,0,rfl,(Array.getElem?_eq_some_iff.1 h).1,fun i hi=>by rw[Nat.zero_add,h.cell (by omega),toI_get]⟩⟩
theorem Page.rest {w:World} {g e:Nat} {l:List UInt8} (h:Page w g l) (hl:l.length=128) (he:e≤128) {a2:Addr} (ha:e<128→a2=⟨g,e,none⟩):Bs w (some a2) (128-e) (128-e) (l.drop e):=
 ⟨by rw[toI_length,List.length_drop,hl],Nat.le_refl _,by unfold maxLen;omega,(fun h=>by cases h),by
  by_cases h0:e<128
  ·obtain rfl:=ha h0
   exact .inr ⟨g,e,rfl,(Array.getElem?_eq_some_iff.1 h).1,fun i hi=>by rw[h.cell (by omega),toI_get,List.getElem?_drop]⟩
  ·exact .inl (by omega)⟩
theorem splice_map {α β:Type} (f:α→β) (L:List α) (off:Nat) (cs:List α):splice (L.map f) off (cs.map f)=(splice L off cs).map f:=by simp[splice,List.map_take,List.map_drop]
theorem toI_splice (L:List UInt8) (off:Nat) (cs:List UInt8):splice ((toI L).map (Value.int .u8)) off ((toI cs).map (Value.int .u8))=(toI (splice L off cs)).map (Value.int .u8):=by
 rw[splice_map];congr 1;exact splice_map _ _ _ _
theorem Bs.source {w:World} {a:Option Addr} {n cap:Nat} {c:List UInt8} (h:Bs w a n cap c) (hpos:0<((toI c).map (Value.int .u8)).length) :
 ∃ad,a=some ad∧∀j v,((toI c).map (Value.int .u8))[j]? = some v→w.cell? (ad.add j)=some v:=by
 have hl:=h.len;have hp:0<n:=by simpa[toI,hl] using hpos
 obtain⟨b,off,e,_,hc⟩:=h.cell hp;refine⟨_,e,fun j v hj=>?_⟩;have hjl:j<c.length:=by
  have:=(List.getElem?_eq_some_iff.1 hj).1;simpa[toI] using this
 rw[add_none,hc j (by omega)];simp[toI,hjl] at hj ⊢;exact hj
theorem one_cells (c:List UInt8):∀v∈(toI c).map (Value.int .u8),v.oneCell'=true:=fun v hv=>by
 obtain⟨y,_,rfl⟩:=List.mem_map.1 hv;rfl
theorem info_one:(Tryz.prog.info? 5).map (·.size)=some 1:=by kernel_rfl
theorem copy_sum {w:World} {g n cap:Nat} {a:Option Addr} {raw s:List UInt8} (hp:Page w g raw) (hl:raw.length=128) (h:Bs w a n cap s) (hn:0<n) (hn2:n≤128) :
 ∃w4,(Builtin.copy_ #[42,42] 3 #[.slice (some ⟨g,0,none⟩) 128 128,.slice a n cap]).run Tryz.prog w=.ok (.int .i64 n) w4∧Page w4 g (splice raw 0 s)∧∀B w0,Below B w0 w→B≤g→Below B w0 w4:=by
 have hsl:=h.len;have hlen:((toI s).map (Value.int .u8)).length=n:=by rw[List.length_map,toI_length,hsl]
 obtain⟨ad,rfl,hsrc⟩:=h.source (by rw[hlen];exact hn);have hr:=run_copy_row (P:=Tryz.prog) w 42 42 3 5 g 0 128 128 ad n cap _ _ ((toI s).map (Value.int .u8)) Tryz.underlying42 info_one hp
  (by rw[hlen];exact(Nat.min_eq_left hn2).symm) hsrc (by rw[hlen,List.size_toArray,List.length_map,toI_length,hl];omega) (one_cells s)
 rw[hlen] at hr;refine⟨_,hr,?_,fun B w0 hb hB=>below_setRow hb hB _⟩;have h2:=setRow_heap w g _ ((((toI raw).map (Value.int .u8)).take 0++(toI s).map (Value.int .u8)++((toI raw).map (Value.int .u8)).drop (0+n)).toArray) _ (0,0) hp;unfold Page;rw[←toI_splice,splice,hlen,←List.append_assoc];exact h2
def PackPost (w:World) (p:List UInt8) (e:Ending) (w':World):Prop:=
 ∃v,e=.returned (.tuple #[v,.int .i64 0])∧w'.ownsRow w.heap.size 5 1 v 128 ((toI p).map (Value.int .u8))∧Below w.heap.size w w'
theorem pageOf_length (kind:UInt8) (l:List (List UInt8)) (h:l.length+lens l≤122):(pageOf kind l).length=128:=by
 rw[pageOf,List.length_append,beBytes_length,bodyOf_length kind _ l h]
theorem num_four (x:Nat) (w:World) (hx:x<18446744073709551616) :
 Calls Tryz.prog 64 #[.int .u64 x,.int .i64 4] w fun e w'=>∃a cap,e=.returned (.slice a 4 cap)∧Bs w' a 4 cap (beBytes x 4)∧Below w.heap.size w w':=by
 refine(num_ok x 4 w hx (by omega) (by omega)).mono ?_;rintro e w3 ⟨v,rfl,hown,hb3⟩;rw[beBytes_length] at hown;obtain⟨a5,cap5,rfl,hbs5⟩:=Bs.of_own hown;exact⟨a5,cap5,rfl,hbs5,hb3⟩
theorem own_baseC {w:World} {base b0:Nat} {e:TypeId} {size:Nat} {v:Value} {n:Nat} {xs:List Value} (h:w.ownsRow base e size v n xs) (hb:b0≤base):w.ownsRow b0 e size v n xs:=
 ⟨h.1,h.2.imp id fun⟨g,cap,cur,e,hg,r⟩=>⟨g,cap,cur,e,Nat.le_trans hb hg,r⟩⟩
theorem pack_ok (kind:UInt8) (a:Option Addr) (len cap:Nat) (l:List (List UInt8)) (w:World) (h:Bss w a len cap l) (hh:Half w) (hk:kind≠0) (hfit:len+lens l≤122) :
 Calls Tryz.prog 172 #[.int .u8 kind.toNat,.slice a len cap] w (PackPost w (pageOf kind l)):=by
 have hll:=Hd h.1;have hk':((kind.toNat:Int) == 0)=false:=by
  exact qad665f
 have hf2:decide ((122:Int)<(len:Int)+(lens l:Int))=false:=by simp;omega
 have hn8:(len:Int) % 256=(len:Int):=by omega
 have hk8:=kind.toNat_lt;go_enter Tryz.func172,Tryz.ntmps172;go_wp2_with fail;refine(csize_any a len cap l w h (by omega)).mono ?_;rintro e w' ⟨rfl,rfl⟩;go_wp2_with fail;have hp2:Page (w.alloc (.cells ((Tryz.zeroCells121.setIfInBounds 4 (.int .u8 (kind.toNat:Int))).setIfInBounds 5 (.int .u8 (len:Int))) 121)) w.heap.size (rawOf kind len []):=by
  unfold Page;rw[World.alloc_heap_new,rawOf_nil,zero_cells];have e4:(UInt8.ofNat len).toNat=len:=by rw[UInt8.toNat_ofNat'];omega
  simp only[toI,List.map_set,e4,List.setIfInBounds_toArray]
 have HP2:=Hd hp2;have hB2:=(Below.refl w.heap.size w).alloc (Nat.le_refl _) (.cells ((Tryz.zeroCells121.setIfInBounds 4 (.int .u8 (kind.toNat:Int))).setIfInBounds 5 (.int .u8 (len:Int))) 121);clear hp2;generalize w.alloc (.cells ((Tryz.zeroCells121.setIfInBounds 4 (.int .u8 (kind.toNat:Int))).setIfInBounds 5 (.int .u8 (len:Int))) 121)=w2 at *
 go_loopw [7,25] (fun e i wr=>∃k:Nat,k≤len∧i=.int .i64 k∧e=.int .i64 ((128-lens (l.take k):Nat):Int)∧Page wr w.heap.size (rawOf kind len (l.take k))∧Below w.heap.size w wr) (fun _ i _=>len-(intOf i).toNat)
 case atStart=>exact⟨0,Nat.zero_le _,rfl,rfl,HP2.out,hB2⟩
 case round=>
  obtain⟨k,hk,rfl,rfl,hp,hb⟩:=hrel
  by_cases hlt:k<len
  ·obtain⟨b,off,a',n',cap',rfl,hbb,hcell,hbs⟩:=(h.below (Nat.le_refl _) hb).at hlt
   have hm:=lens_take_le l (k+1);have hs:=lens_take_succ l k (by rw[hll.out];exact hlt);have hrl:=rawOf_length kind len (l.take k) (by rw[List.length_take,hll.out];have:=lens_take_le l k;omega);have hst:=raw_step kind len (l.take k) (l[k]?.getD []) (by rw[List.length_take,hll.out];omega);rw[←take_snoc l k [] (by rw[hll.out];exact hlt),List.length_take,hll.out,Nat.min_eq_left hk] at hst;have hcl:=hbs.len;obtain⟨c,hc⟩:∃c,c=l[k]?.getD []:=⟨_,rfl⟩
   rw[←hc] at hbs hst hs hcl;obtain⟨q,hq⟩:∃q,q=128-lens (l.take k):=⟨_,rfl⟩
   rw[←hq] at hst ⊢;rw[hcl] at hst hs;have HQ:=Hd hq;have HC:=Hd hcl;clear hc hq hcl;have HST:=Hd hst;have HRL:=Hd hrl;have HM:=Hd hm;have HS:=Hd hs;have hsub:(q:Int)-(n':Int)=((q-n':Nat):Int):=by have:=HQ.out;omega
   clear hst hrl hm hs;have hqe:6≤q-n'∧q-n'<9223372036854775808∧q-n'≤128:=by have:=HQ.out;have:=HM.out;have:=HS.out;omega
   obtain⟨e,he⟩:∃e,e=q-n':=⟨_,rfl⟩
   rw[←he] at hsub hqe HST;obtain⟨a2,ha2,hsl⟩:=page_from w.heap.size e hqe.2.2;have HE:=Hd he;have h256:(e:Int) % 256=(e:Int):=by omega
   clear he;have hqn:e+n'≤128:=by have:=HQ.out;have:=HM.out;have:=HS.out;have:=HE.out;omega
   have HP:=Hd hp;have HMIN:=Hd (show((toI c).map (Value.int .u8)).length=Nat.min n' (128-e) by rw[List.length_map,toI_length,HC.out];exact(Nat.min_eq_left (by omega)).symm);have HFIT:=Hd (show e+((toI c).map (Value.int .u8)).length≤((toI (rawOf kind len (l.take k))).map (Value.int .u8)).length by rw[List.length_map,toI_length,HC.out,List.length_map,toI_length,HRL.out];exact hqn);have HPOS:=Hd (show 0<((toI c).map (Value.int .u8)).length→(some a2:Option Addr)=some ⟨w.heap.size,e,none⟩∧∃ad,a'=some ad∧∀j v,((toI c).map (Value.int .u8))[j]? = some v→wr.cell? (ad.add j)=some v from fun hpos=>⟨congrArg some (ha2 (by rw[List.length_map,toI_length,HC.out] at hpos;omega)),hbs.source hpos⟩);clear hp
   go_wp2_with (refine wpList_copy_splice rfl _ _ 42 42 rfl 5 Tryz.underlying42 info_one (some a2) a' (128-e) (128-e) n' cap' rfl rfl w.heap.size e ((toI (rawOf kind len (l.take k))).map (Value.int .u8)) 121 HP.out ((toI c).map (Value.int .u8)) HMIN.out HPOS.out HFIT.out (one_cells c) w.heap.size w hb (Nat.le_refl _) ?_)
   intro w3 HG hB3;have hg3:Page w3 w.heap.size (splice (rawOf kind len (l.take k)) e c):=by
    have:=HG.out;rw[toI_splice] at this;exact this
   clear HG;have hlen3:(splice (rawOf kind len (l.take k)) e c).length=128:=by
    rw[length_splice _ _ _ (by rw[HRL.out,HC.out];exact hqn),HRL.out]
   have hc6:=hg3.cell (i:=6+k) (by rw[hlen3];omega);have hf6:=hg3.frozen (6+k);have hset:=hg3.set (6+k) e (by omega);rw[HST.out] at hset;have HSET:=Hd hset;have HB:Hid (Below w.heap.size w (w3.setCell ⟨w.heap.size,6+k,none⟩ (.int .u8 (e:Int)))):=Hd (hB3.setCell (Nat.le_refl w.heap.size) _);clear hset hg3 hlen3
   go_wp2
   go_roundw
   case rel=>exact⟨k+1,by omega,by go_num,by have:=HQ.out;have:=HE.out;have:=HS.out;go_num,HSET.out,HB.out⟩
   case measure=>simp[intOf];omega
  ·obtain rfl:k=len:=by omega
   have hx:l.take k=l:=List.take_of_length_le (by rw[hll.out];exact Nat.le_refl _);rw[hx] at hp ⊢;have hl:=rawOf_length kind k l (by rw[hll.out];exact hfit);have HW:=hh.below (Nat.le_refl _) hb;obtain⟨a4,ha4,hs4'⟩:=page_from w.heap.size 4 (by omega);obtain rfl:=ha4 (by omega);have hrow4:Bs wr (some ⟨w.heap.size,4,none⟩) 124 124 (bodyOf kind k l):=hp.rest hl (by omega) ha4;have hsum:=crcOn_lt 0 (bodyOf kind k l);have HPG:=Hd (show splice (rawOf kind k l) 0 (beBytes (crcOf (bodyOf kind k l)) 4)=pageOf kind l by rw[raw_sum _ _ _ _ (beBytes_length _ _),pageOf,hll.out]);have HPL:=Hd (pageOf_length kind l (by rw[hll.out];exact hfit));have hc:=crcOf_any (some ⟨w.heap.size,4,none⟩) 124 124 (bodyOf kind k l) wr.drew (hrow4.drewN 1) (show Half wr.drew from HW);change crcOf _<_ at hsum;generalize crcOf (bodyOf kind k l)=s at *;have m6d6366:=trivial;exact qc46daa
theorem pack_zero (a:Option Addr) (len cap:Nat) (w:World) :
 Calls Tryz.prog 172 #[.int .u8 0,.slice a len cap] w fun e w'=>e=.returned (.tuple #[.slice none 0 0,.int .i64 1])∧w=w':=by
 go_enter Tryz.func172,Tryz.ntmps172
 go_wp2
 go_ret2
 exact⟨rfl,rfl⟩
theorem pack_big (kind:UInt8) (a:Option Addr) (len cap:Nat) (l:List (List UInt8)) (w:World) (h:Bss w a len cap l) (hk:kind≠0) (hfit:122<len+lens l) (hb:len+lens l≤9223372036854775807) :
 Calls Tryz.prog 172 #[.int .u8 kind.toNat,.slice a len cap] w fun e w'=>e=.returned (.tuple #[.slice none 0 0,.int .i64 1])∧w=w':=by
 have hk':((kind.toNat:Int) == 0)=false:=by
  exact qad665f
 have hf2:decide ((122:Int)<(len:Int)+(lens l:Int))=true:=by simp;omega
 go_enter Tryz.func172,Tryz.ntmps172;go_wp2_with fail;refine(csize_any a len cap l w h hb).mono ?_;rintro e w' ⟨rfl,rfl⟩
 go_wp2
 go_ret2
 exact⟨rfl,rfl⟩
def fits (kind:UInt8) (l:List (List UInt8)):Bool:=kind != 0 && decide (l.length+lens l≤122)
def packV (kind:UInt8) (l:List (List UInt8)):List UInt8:=if fits kind l then pageOf kind l else []
def packE (kind:UInt8) (l:List (List UInt8)):Int:=if fits kind l then 0 else 1
def PackAny (w:World) (p:List UInt8) (er:Int) (e:Ending) (w':World):Prop:=
 ∃v,e=.returned (.tuple #[v,.int .i64 er])∧w'.ownsRow w.heap.size 5 1 v p.length ((toI p).map (Value.int .u8))∧Below w.heap.size w w'
theorem pack_any (kind:UInt8) (a:Option Addr) (len cap:Nat) (l:List (List UInt8)) (w:World) (h:Bss w a len cap l) (hh:Half w) (hb:len+lens l≤9223372036854775807) :
 Calls Tryz.prog 172 #[.int .u8 kind.toNat,.slice a len cap] w (PackAny w (packV kind l) (packE kind l)):=by
 have hl:=h.1
 by_cases hk:kind=0
 ·subst hk
  refine(pack_zero a len cap w).mono ?_;rintro e w' ⟨rfl,rfl⟩;exact⟨_,rfl,⟨rfl,.inl ⟨rfl,rfl⟩⟩,Below.refl _ _⟩
 ·by_cases hf:len+lens l≤122
  ·have hfit:fits kind l=true:=by simp[fits,hk,hl,hf]
   refine(pack_ok kind a len cap l w h hh hk hf).mono ?_;rintro e w' ⟨v,rfl,hown,hbw⟩;refine⟨v,by rw[packE,if_pos hfit],?_,hbw⟩;rw[packV,if_pos hfit,pageOf_length kind l (by omega)];exact hown
  ·have hfit:fits kind l=false:=by simp[fits,hl];omega
   refine(pack_big kind a len cap l w h hk (by omega) hb).mono ?_;rintro e w' ⟨rfl,rfl⟩;refine⟨_,by rw[packE,hfit];rfl,?_,Below.refl _ _⟩;rw[packV,hfit];exact⟨rfl,.inl ⟨rfl,rfl⟩⟩
open Go.RowKit
theorem Strs.below {w w':World} {a:Option Addr} {len cap:Nat} {l:List (List UInt8)} {B:Nat} (hB:w.heap.size≤B) (hb:Below B w w') (h:Strs w a len cap l):Strs w' a len cap l:=TabR.below hB hb h
theorem rsize_any (a:Option Addr) (len cap:Nat) (l:List (List UInt8)) (w:World) (h:Strs w a len cap l) (hb:len+lens l≤9223372036854775807) :
 Calls Tryz.prog 184 #[.slice a len cap] w fun e w'=>e=.returned (.int .i64 ((len+lens l:Nat):Int))∧w=w':=by
 have hll:=Hd h.1;have hm:=h.2.2.1;have hc:=h.2.1;unfold maxLen at hm;go_enter Tryz.func184,Tryz.ntmps184
 go_wp2
 go_loop [3,4] (fun s i=>∃k:Nat,k≤len∧i=.int .i64 k∧s=.int .i64 ((k+lens (l.take k):Nat):Int)) (fun _ i=>len-(intOf i).toNat)
 case atStart=>exact⟨0,Nat.zero_le _,rfl,by simp[lens]⟩
 case round=>
  obtain⟨k,hk,rfl,rfl⟩:=hrel
  by_cases hlt:k<len
  ·obtain⟨b,off,rfl,hbb,hcell⟩:=h.at hlt
   have hst:=lens_take_succ l k (by rw[hll.out];exact hlt);have hle:=lens_take_le l (k+1);have hsz:=strOf_size (l[k]?.getD []);generalize l[k]?.getD []=c at *;have hst2:k+1+lens (l.take (k+1))=k+lens (l.take k)+(c.length+1):=by omega
   have hle2:k+lens (l.take k)+(c.length+1)≤9223372036854775807:=by omega
   have H:=Hd hst2;clear hst hst2 hle;generalize k+lens (l.take k)=q at *;exact q931089
  ·obtain rfl:k=len:=by omega
   exact q7b2129
def StrPost (w:World) (p:List UInt8) (er:Int) (e:Ending) (w':World):Prop:=e=.returned (.tuple #[.string (strOf p),.int .i64 er])∧Below w.heap.size w w'
theorem conv_nat {P:Program} {W:World} {src e dst t:TypeId} (hs:P.underlying src=some (.slice e)) (he:P.underlying e=some (.int .u8)) (hd:P.underlying dst=some .string) (n:Nat) (hn:n<256) :
 (convert src dst (.slice (some ⟨W.heap.size,0,none⟩) 1 1)).run P (W.alloc (.cells #[.int .u8 (n:Int)] t))=.ok (.string (strOf [UInt8.ofNat n])) (W.alloc (.cells #[.int .u8 (n:Int)] t)):=by
 have h:=conv_one (W:=W) (t:=t) hs he hd (UInt8.ofNat n);have e2:(UInt8.ofNat n).toNat=n:=by rw[UInt8.toNat_ofNat'];omega
 rw[e2] at h;exact h
theorem conv_two {P:Program} {W:World} {src e dst t:TypeId} (hs:P.underlying src=some (.slice e)) (he:P.underlying e=some (.int .u8)) (hd:P.underlying dst=some .string) (b:UInt8) (n:Nat) (hn:n<256) :
 (convert src dst (.slice (some ⟨W.heap.size,0,none⟩) 2 2)).run P (W.alloc (.cells #[.int .u8 (b.toNat:Int),.int .u8 (n:Int)] t))=.ok (.string (strOf [b,UInt8.ofNat n])) (W.alloc (.cells #[.int .u8 (b.toNat:Int),.int .u8 (n:Int)] t)):=by
 have e2:(UInt8.ofNat n).toNat=n:=by rw[UInt8.toNat_ofNat'];omega
 have h:=conv_string hs he hd (show Bs _ _ _ _ [b,UInt8.ofNat n] from Row.made .u8 W t [(b.toNat:Int),((UInt8.ofNat n).toNat:Int)] rfl (by unfold maxLen;simp));rw[e2] at h;exact h
theorem rpack_ok (kind:UInt8) (a:Option Addr) (len cap:Nat) (l:List (List UInt8)) (w:World) (h:Strs w a len cap l) (hk:kind≠0) (hfit:len+lens l≤122) :
 Calls Tryz.prog 169 #[.int .u8 kind.toNat,.slice a len cap] w (StrPost w (pageOf kind l) 0):=by
 have hll:=Hd h.1;have hk':((kind.toNat:Int) == 0)=false:=by
  exact qad665f
 have hf2:decide ((122:Int)<(len:Int)+(lens l:Int))=false:=by simp;omega
 have hn8:(len:Int) % 256=(len:Int):=by omega
 go_enter Tryz.func169,Tryz.ntmps169;go_wp2_with fail;refine(rsize_any a len cap l w h (by omega)).mono ?_;rintro e w' ⟨rfl,rfl⟩
 go_wp2
 go_loopw [6,7,8] (fun s b i wr=>∃k:Nat,k≤len∧i=.int .i64 k∧s=.string (strOf (slotsOf 128 (l.take k)))∧b=.string (strOf (backOf (l.take k)))∧Below w.heap.size w wr) (fun _ _ i _=>len-(intOf i).toNat)
 case atStart=>exact⟨0,Nat.zero_le _,rfl,rfl,rfl,Below.refl _ _⟩
 case round=>
  obtain⟨k,hk,rfl,rfl,rfl,hb⟩:=hrel
  by_cases hlt:k<len
  ·obtain⟨b,off,rfl,hbb,hcell⟩:=(h.below (Nat.le_refl _) hb).at hlt
   have hm:=lens_take_le l (k+1);have hs:=lens_take_succ l k (by rw[hll.out];exact hlt);have hts:=take_snoc l k [] (by rw[hll.out];exact hlt);have hbk:backOf (l.take (k+1))=l[k]?.getD []++backOf (l.take k):=by rw[hts,backOf_append,backOf_one]
   have hsl:slotsOf 128 (l.take (k+1))=slotsOf 128 (l.take k)++[UInt8.ofNat (128-lens (l.take (k+1)))]:=by
    rw[hs,hts,slotsOf_append];simp[slotsOf,Nat.sub_sub]
   have hbl:=backOf_length (l.take (k+1));have hbl0:=backOf_length (l.take k);have hsl0:=slotsOf_length (l.take k) 128;rw[List.length_take] at hsl0;obtain⟨e,he⟩:∃e,e=128-lens (l.take (k+1)):=⟨_,rfl⟩
   rw[←he] at hsl;have he8:(128:Int)-(lens (l.take (k+1)):Int)=(e:Int):=by omega
   have he6:e≤128:=by omega
   have h256:(e:Int) % 256=(e:Int):=by omega
   have hm1:lens (l.take (k+1))≤122:=by omega
   generalize l[k]?.getD []=c at *;generalize backOf (l.take k)=bk at *;generalize hbe:backOf (l.take (k+1))=bk1 at *;generalize slotsOf 128 (l.take k)=sl at *;generalize hse:slotsOf 128 (l.take (k+1))=sl1 at *;have HBE:=Hd hbe;have HSE:=Hd hse;clear hbe hse;have hcl:c.length+bk.length≤122:=by omega
   have hsz1:(strOf bk1).size=lens (l.take (k+1)):=by rw[strOf_size];exact hbl
   have hap:=strOf_append c bk;rw[←hbk] at hap;have hbnd:(strOf c).size+(strOf bk).size≤9223372036854775807:=by rw[strOf_size,strOf_size];omega
   have hap2:=strOf_append sl [UInt8.ofNat e];rw[←hsl] at hap2;have hbnd2:(strOf sl).size+(strOf [UInt8.ofNat e]).size≤9223372036854775807:=by rw[strOf_size,strOf_size];simp;omega
   have hcv:=conv_nat (W:=wr) (t:=5) Tryz.underlying42 Tryz.underlying5 Tryz.underlying9 e (by omega);have HB:=Hd (hb.alloc hb.size (.cells #[.int .u8 (e:Int)] 5));clear hs hts hbk hsl hbl hbl0 hsl0 he hm hb;generalize lens (l.take (k+1))=q at *;generalize UInt8.ofNat e=ub at *
   go_wp2
   go_roundw
   case rel=>exact⟨k+1,by omega,by go_num,by rw[HSE.out],by rw[HBE.out],HB.out⟩
   case measure=>simp[intOf];omega
  ·obtain rfl:k=len:=by omega
   have hx:l.take k=l:=List.take_of_length_le (by rw[hll.out];exact Nat.le_refl _);rw[hx];have hsl:=slotsOf_length l 128;have hbl:=backOf_length l;rw[hll.out] at hsl;have HPG:=Hd (show pageOf kind l=beBytes (crcOf (bodyOf kind k l)) 4++bodyOf kind k l by rw[pageOf,hll.out]);have hbody:bodyOf kind k l=[kind,UInt8.ofNat k]++slotsOf 128 l++(List.replicate (122-k-lens l) 0++backOf l):=by rw[bodyOf,hll.out];simp
   have hlb:=bodyOf_length kind k l (by rw[hll.out];exact hfit);generalize bodyOf kind k l=bd at *;generalize slotsOf 128 l=sl at *;generalize backOf l=bk at *;obtain⟨z,hz⟩:∃z,z=122-k-lens l:=⟨_,rfl⟩
   rw[←hz] at hbody;obtain⟨hd,hhd⟩:∃hd,hd=[kind,UInt8.ofNat k]++sl:=⟨_,rfl⟩
   rw[←hhd] at hbody;have hap1:=strOf_append [kind,UInt8.ofNat k] sl;rw[←hhd] at hap1;have hap2:=strOf_append (List.replicate z 0) bk;obtain⟨zb,hzb⟩:∃zb,zb=List.replicate z 0++bk:=⟨_,rfl⟩
   rw[←hzb] at hbody hap2;have hap3:=strOf_append hd zb;rw[←hbody] at hap3;have hcv:=conv_two (W:=wr) (t:=5) Tryz.underlying42 Tryz.underlying5 Tryz.underlying9 kind k (by omega);obtain⟨s1,hs1,hs1'⟩:∃s1,(strOf hd).size=s1∧s1=2+k:=⟨_,rfl,by rw[strOf_size,hhd];simp[hsl];omega⟩
   obtain⟨s2,hs2,hs2'⟩:∃s2,(strOf bk).size=s2∧s2=lens l:=⟨_,rfl,by rw[strOf_size];exact hbl⟩
   have hz2:(124:Int)-(s1:Int)-(s2:Int)=(z:Int):=by omega
   have hz3:z≤122:=by omega
   have hs12:s1≤124∧s2≤122:=by omega
   have hbn1:(strOf [kind,UInt8.ofNat k]).size+(strOf sl).size≤9223372036854775807:=by rw[strOf_size,strOf_size];simp;omega
   have hbn2:(strOf (List.replicate z (0:UInt8))).size+(strOf bk).size≤9223372036854775807:=by rw[strOf_size,hs2];simp;omega
   have hbn3:(strOf hd).size+(strOf zb).size≤9223372036854775807:=by rw[hs1,strOf_size,hzb];simp;omega
   obtain⟨rz,hrz⟩:∃rz,rz=List.replicate z (0:UInt8):=⟨_,rfl⟩
   rw[←hrz] at hap2 hbn2;have HRZ:=Hd hrz;have HLB:=Hd hlb;obtain⟨i0,hi,hz0,hz1,hz2'⟩:=info_parts info_u8;have hB2:=hb.alloc hb.size (.cells #[.int .u8 (kind.toNat:Int),.int .u8 (k:Int)] 5);have HSZ:=Hd hb.size;generalize hU:UInt8.ofNat k=ub at *;clear hU hhd hzb hbody hx hz hlb hrz hsl hbl hs1' hs2'
   go_wp2_with (at_make;refine wpList_make_full _ rfl _ _ 42 rfl w.heap.size 5 i0 _ 1 Tryz.underlying42 hi hz0 hz1 .i64 .i64 _ _ z rfl rfl rfl rfl (by rw[hz2'];omega) (by unfold maxLen;omega) (by have:=HSZ.out;simp;omega) ?_)
   intro w2 hown hg;have hown':w2.ownsRow w.heap.size 5 1 (.slice (some ⟨wr.heap.size+1,0,none⟩) z z) z ((toI rz).map (Value.int .u8)):=by
    simp only[made_list] at hown;rw[HRZ.out];simpa[toI] using hown
   have hcv2:=conv_string Tryz.underlying42 Tryz.underlying5 Tryz.underlying9 (Bs.own hown');have HB3:=Hd (hB2.grown hg (by have:=HSZ.out;simp;omega) (fun k e=>by cases e));clear hown hown' hg hcv;have hbl:bd.length≤9223372036854775807:=by rw[HLB.out];omega
   go_wp2_with fail;refine(refOf_any bd w2 hbl).mono ?_;rintro e w3 ⟨rfl,rfl⟩;have hsum:=crcOn_lt 0 bd;change crcOf bd<_ at hsum;generalize hS:crcOf bd=s at *;have HS:=Hd hS;clear hS;have hw64:(s:Int) % 18446744073709551616=(s:Int):=by omega
   go_wp2_with fail;refine(refNum_ok s 4 w2 (by omega) (by omega) (by omega)).mono ?_;rintro e w4 ⟨rfl,hb4⟩;have hap4:=strOf_append (beBytes s 4) bd;have hbn4:(strOf (beBytes s 4)).size+(strOf bd).size≤9223372036854775807:=by rw[strOf_size,strOf_size,beBytes_length,HLB.out];omega
   have HPG2:=Hd (show pageOf kind l=beBytes s 4++bd from HPG.out);generalize beBytes s 4=s4 at *;generalize s4++bd=pg at *
   go_wp2
   go_ret2
   exact⟨by rw[HPG2.out];rfl,below_then HB3.out hb4⟩
theorem rpack_zero (a:Option Addr) (len cap:Nat) (w:World) :
 Calls Tryz.prog 169 #[.int .u8 0,.slice a len cap] w fun e w'=>e=.returned (.tuple #[.string (strOf []),.int .i64 1])∧w=w':=by
 go_enter Tryz.func169,Tryz.ntmps169
 go_wp2
 go_ret2
 exact⟨rfl,rfl⟩
theorem rpack_big (kind:UInt8) (a:Option Addr) (len cap:Nat) (l:List (List UInt8)) (w:World) (h:Strs w a len cap l) (hk:kind≠0) (hfit:122<len+lens l) (hb:len+lens l≤9223372036854775807) :
 Calls Tryz.prog 169 #[.int .u8 kind.toNat,.slice a len cap] w fun e w'=>e=.returned (.tuple #[.string (strOf []),.int .i64 1])∧w=w':=by
 have hk':((kind.toNat:Int) == 0)=false:=by
  exact qad665f
 have hf2:decide ((122:Int)<(len:Int)+(lens l:Int))=true:=by simp;omega
 go_enter Tryz.func169,Tryz.ntmps169;go_wp2_with fail;refine(rsize_any a len cap l w h hb).mono ?_;rintro e w' ⟨rfl,rfl⟩
 go_wp2
 go_ret2
 exact⟨rfl,rfl⟩
theorem rpack_any (kind:UInt8) (a:Option Addr) (len cap:Nat) (l:List (List UInt8)) (w:World) (h:Strs w a len cap l) (hb:len+lens l≤9223372036854775807) :
 Calls Tryz.prog 169 #[.int .u8 kind.toNat,.slice a len cap] w (StrPost w (packV kind l) (packE kind l)):=by
 have hl:=h.1
 by_cases hk:kind=0
 ·subst hk
  refine(rpack_zero a len cap w).mono ?_;rintro e w' ⟨rfl,rfl⟩;exact⟨rfl,Below.refl _ _⟩
 ·by_cases hf:len+lens l≤122
  ·have hfit:fits kind l=true:=by simp[fits,hk,hl,hf]
   rw[packV,packE,if_pos hfit,if_pos hfit];exact rpack_ok kind a len cap l w h hk hf
  ·have hfit:fits kind l=false:=by simp[fits,hl];omega
   rw[packV,packE,hfit];refine(rpack_big kind a len cap l w h hk (by omega) hb).mono ?_;rintro e w' ⟨rfl,rfl⟩;exact⟨rfl,Below.refl _ _⟩
open Go.RowKit
theorem wpList_append_one {P:Program} {w:World} {ops:Array Oper} {rest:List Oper} {o:Oper} {act:Act} {Q:Exit→Act→World→Prop} (hgd:o.guard=none) (s x:Operand) (t:TypeId)
 (ho:o.op=.call { callee:=.builtin .append,args := #[s,x],argTypes := #[t,t] })
 (base:Nat) (e:TypeId) (i:TypeInfo) (z:Value) (bytes:Nat) (ht:P.underlying t=some (.slice e)) (hi:P.info? e=some i) (hz:i.zero=some z)
 (hsize:i.size=1) (hby:i.bytes=bytes) (hzs:z.cells.size=1)
 (v:Value) (n:Nat) (xs:List Value) (hs:act.eval s=v) (hown:w.ownsRow base e 1 v n xs)
 (b:Nat) (hx:act.eval x=.slice (some ⟨b,0,none⟩) 1 1) (u:Value) (hu:w.cell? ⟨b,0,none⟩=some u) (h1:u.oneCell'=true)
 (h63:n+1≤maxLen) (hbytes:(n+1)*bytes≤140737488355328) (hbase:base≤w.heap.size)
 (h:∀v' w',w'.ownsRow base e 1 v' (n+1) (xs++[u])→w.grownBy w' v.ownBlock→wpList P ops Q rest (act.put o.dst v') w'):wpList P ops Q (o::rest) act w:=by
 refine wpList_append_own w hgd s x t ho base e i z 1 bytes ht hi hz hsize hby hzs (by decide) v n xs hs hown ⟨b,0,none⟩ 1 1 [u] hx rfl ?_ (fun y hy=>by
  obtain rfl:=List.mem_singleton.1 hy;exact h1) h63 hbytes hbase fun v' w' h5 h6 _=>h v' w' h5 h6
 intro j y hj
 match j,hj with
 | 0,hj=>cases hj;simpa[Addr.add] using hu
 | j+1,hj=>simp at hj
def sv (c:List UInt8):Value:=.string (strOf c)
def OwnStrs (w:World) (l:List (List UInt8)) (e:Ending) (w':World):Prop:=
 ∃v,e=.returned v∧w'.ownsRow w.heap.size 9 1 v l.length (l.map sv)∧Below w.heap.size w w'
theorem Strs.of_own {w:World} {base:Nat} {v:Value} {n:Nat} {l:List (List UInt8)} (h:w.ownsRow base 9 1 v n (l.map sv)) :
 ∃a cap,v=.slice a n cap∧Strs w a n cap l:=by
 obtain⟨h1,h2⟩:=h;simp only[List.length_map,Nat.mul_one] at h1
 rcases h2 with⟨rfl,rfl⟩|⟨g,cap,cur,rfl,hb,hg,hn,hm,hc,ht⟩
 ·exact⟨none,0,rfl,h1,Nat.le_refl _,by unfold maxLen;omega,fun _=>rfl,.inl rfl⟩
 ·refine⟨_,cap,rfl,h1,hn,hm,(fun h=>by cases h),.inr ⟨g,0,rfl,(Array.getElem?_eq_some_iff.1 hg).1,fun i y hy=>⟨[sv y],rfl,rfl,fun j u hu=>?_⟩⟩⟩
  have hi:=(List.getElem?_eq_some_iff.1 hy).1
  match j,hu with
  | 0,hu=>
   cases hu;simp only[World.cell?,hg,Nat.zero_add,Nat.mul_one,Nat.add_zero];have e:(cur.toList.take (n*1))[i]? = cur.toList[i]? := List.getElem?_take_of_lt (by omega);rw[ht] at e;rw[←Array.getElem?_toList,←e];simp[hy]
  | j+1,hu=>simp at hu
theorem info_str:(Tryz.prog.info? 9).map (fun i=>(i.zero,i.size,i.bytes))=some (some (.string ByteArray.empty),1,16):=by kernel_rfl
open Go.RowKit
theorem take_any (a:Option Addr) (len cap:Nat) (l:List UInt8) (w:World) (h:Bs w a len cap l) (hreach:len≤140737488351232) :
 Calls Tryz.prog 56 #[.slice a len cap] w fun e w'=>e=.returned (.pointer (some ⟨w'.heap.size-1,0,none⟩))∧Tk w' (w'.heap.size-1) ⟨l,0⟩∧w.heap.size≤w'.heap.size-1∧Below w.heap.size w w':=by
 have hll:=Hd h.len;go_enter Tryz.func56,Tryz.ntmps56;go_wp2_with fail;refine(clone_any a len cap l w h hreach).mono ?_;rintro e w1 ⟨v,rfl,hown,hb⟩;obtain⟨a2,cap2,rfl,hbs⟩:=Bs.of_own hown;clear hown
 go_wp2
 go_ret;have hs:=hb.size;refine⟨by simp,⟨a2,cap2,?_,hbs.below (Nat.le_refl _) ((Below.refl _ _).alloc (Nat.le_refl _) _)⟩,by simp;omega,hb.alloc hs _⟩;have:=World.alloc_heap_new w1 (.cells #[.slice a2 l.length cap2,.int .i64 0] 231);simpa using this
theorem some_u64_err (t:Nat) (s:TSt) (n:Int) (w:World) (h:Tk w t s) (he:s.e≠0) :
 Calls Tryz.prog 105 #[.pointer (some ⟨t,0,none⟩),.int .i64 n,.func (.func 106) #[] #[]] w fun e w'=>e=.returned (.int .u64 0)∧w=w':=by
 have m6622f6:=trivial;exact q7f39ad
theorem some_u64_any (t:Nat) (s:TSt) (n:Nat) (w:World) (h:Tk w t s) (h8:n≤8) (hreach:s.l.length≤140737488351232) :
 Calls Tryz.prog 105 #[.pointer (some ⟨t,0,none⟩),.int .i64 n,.func (.func 106) #[] #[]] w (TkPost w t (fun _ v=>v=.int .u64 (beVal (takeF s n).1)) (takeF s n).2):=by
 by_cases he:s.e≠0
 ·refine(some_u64_err t s n w h he).mono ?_
  exact q68dd29
 ·obtain⟨sl,se⟩:=s
  have m90ee58:=trivial;exact q0fdeb7
theorem some_str_err (t:Nat) (s:TSt) (n:Int) (w:World) (h:Tk w t s) (he:s.e≠0) :
 Calls Tryz.prog 107 #[.pointer (some ⟨t,0,none⟩),.int .i64 n,.func (.func 108) #[] #[]] w fun e w'=>e=.returned (.string (strOf []))∧w=w':=by
 have m687f8d:=trivial;exact q7f39ad
theorem some_str_any (t:Nat) (s:TSt) (n:Nat) (w:World) (h:Tk w t s) (hreach:s.l.length≤140737488351232) :
 Calls Tryz.prog 107 #[.pointer (some ⟨t,0,none⟩),.int .i64 n,.func (.func 108) #[] #[]] w (TkPost w t (fun _ v=>v=.string (strOf (takeF s n).1)) (takeF s n).2):=by
 by_cases he:s.e≠0
 ·refine(some_str_err t s n w h he).mono ?_
  exact q68dd29
 ·obtain⟨sl,se⟩:=s
  have m4ecc02:=trivial;exact q0fdeb7
theorem some_bytes_err (t:Nat) (s:TSt) (n:Int) (w:World) (h:Tk w t s) (he:s.e≠0) :
 Calls Tryz.prog 208 #[.pointer (some ⟨t,0,none⟩),.int .i64 n,.func (.func 104) #[] #[]] w fun e w'=>e=.returned (.slice none 0 0)∧w=w':=by
 have m01f38c:=trivial;exact q7f39ad
theorem some_bytes_any (t:Nat) (s:TSt) (n:Nat) (w:World) (h:Tk w t s) (hreach:s.l.length≤140737488351232) :
 Calls Tryz.prog 208 #[.pointer (some ⟨t,0,none⟩),.int .i64 n,.func (.func 104) #[] #[]] w (TkPost w t (fun w' v=>w'.ownsRow w.heap.size 5 1 v (takeF s n).1.length ((toI (takeF s n).1).map (Value.int .u8))) (takeF s n).2):=by
 by_cases he:s.e≠0
 ·refine(some_bytes_err t s n w h he).mono ?_
  rintro e w' ⟨rfl,rfl⟩;refine⟨_,rfl,?_,grown_below (Below.refl _ _) _,?_⟩
  ·simp only[takeF,if_pos he];exact⟨rfl,.inl ⟨rfl,rfl⟩⟩
  ·simp only[takeF,if_pos he];exact h
 ·obtain⟨sl,se⟩:=s
  have m1ba462:=trivial;exact q0fdeb7
open Go.RowKit
theorem tErr_any (t:Nat) (s:TSt) (w:World) (h:Tk w t s) :
 Calls Tryz.prog 109 #[.pointer (some ⟨t,0,none⟩)] w fun e w'=>e=.returned (.int .i64 s.e)∧w=w':=by
 obtain⟨a,cap,hblk,hbs⟩:=h;have hc1:w.cell? ⟨t,1,none⟩=some (.int .i64 s.e):=by simp[World.cell?,hblk]
 go_enter Tryz.func109,Tryz.ntmps109;exact q72c811
theorem tDone_any (t:Nat) (s:TSt) (w:World) (h:Tk w t s) :
 Calls Tryz.prog 59 #[.pointer (some ⟨t,0,none⟩)] w fun e w'=>e=.returned (.int .i64 (tDone s))∧w=w':=by
 have hE:=tErr_any t s w h;obtain⟨a,cap,hblk,hbs⟩:=h;have hc0:w.cell? ⟨t,0,none⟩=some (.slice a s.l.length cap):=by simp[World.cell?,hblk]
 have hm:=hbs.cap;unfold maxLen at hm
 by_cases he:s.e=0
 ·have hd:tDone s=if s.l.length=0 then 0 else 11:=by simp[tDone,he]
  rw[he] at hE;have hne':((s.l.length:Int) == 0)=decide (s.l.length=0):=by
   by_cases h0:s.l.length=0<;>simp[h0]
  by_cases h0:s.l.length=0
  ·rw[if_pos h0] at hd
   have HD:=Hd hd;have hz:((s.l.length:Int) == 0)=true:=by simp[h0]
   clear hd h0 hne' he;exact q35e021
  ·rw[if_neg h0] at hd
   have HD:=Hd hd;have hz:((s.l.length:Int) == 0)=false:=by simp[h0]
   clear hd h0 hne' he;exact q35e021
 ·have HD:=Hd (show tDone s=s.e by simp[tDone,he])
  have hne:(s.e == 0)=false:=by simpa using he
  have hne':(s.e != 0)=true:=by simpa using he
  clear he;generalize s.e=er at *;exact q35e021
theorem tNum_any (t:Nat) (s:TSt) (size:Int) (w:World) (h:Tk w t s) (hreach:s.l.length≤140737488351232) :
 Calls Tryz.prog 57 #[.pointer (some ⟨t,0,none⟩),.int .i64 size] w (TkPost w t (fun _ v=>v=.int .u64 ((tNum s size).1:Int)) (tNum s size).2):=by
 have hT:=h;obtain⟨a,cap,hblk,hbs⟩:=h;have hc1:w.cell? ⟨t,1,none⟩=some (.int .i64 s.e):=by simp[World.cell?,hblk]
 have hf1:w.frozen? ⟨t,1,none⟩=false:=by simp[World.frozen?,hblk]
 by_cases he:s.e=0
 ·by_cases hsz:size<1∨8<size
  ·have hr:tNum s size=(0,{ s with e:=1 }):=by simp[tNum,he,hsz]
   rw[hr];have hnew:Tk (w.setCell ⟨t,1,none⟩ (.int .i64 1)) t { s with e:=1 }:=
    ⟨a,cap,heap_setCell_at 1 (.int .i64 1) hblk,hbs.grown (grown_setCell _ _ _) (bs_ne hblk hbs)⟩
   have hgr:=grown_setCell w ⟨t,1,none⟩ (.int .i64 1);rw[he] at hc1;clear hr hblk hbs hT he
   rcases hsz with hsz|hsz
   ·go_enter Tryz.func57,Tryz.ntmps57
    exact q11f35a
   ·have hsz':¬size<1:=by omega
    go_enter Tryz.func57,Tryz.ntmps57;exact q11f35a
  ·obtain⟨n,rfl⟩:=Int.eq_ofNat_of_zero_le (show 0≤size by omega)
   have hr:tNum s (n:Int)=(beVal (takeF s n).1,(takeF s n).2):=by simp only[tNum];rw[if_neg (fun h=>hsz h.2)];rfl
   rw[hr];have hs1:¬(n:Int)<1:=by omega
   have hs2:¬(8:Int)<(n:Int):=by omega
   have hcall:=some_u64_any t s n w hT (by omega) hreach;rw[he] at hc1;clear hr hblk hbs hT he hsz;go_enter Tryz.func57,Tryz.ntmps57;go_wp2_with fail;refine hcall.mono ?_;rintro e w' ⟨v,rfl,rfl,hgr,hnew⟩;exact q11f35a
 ·have hr:tNum s size=(0,s):=by simp[tNum,takeF,he,beVal_nil]
  rw[hr];have hcall:=some_u64_err t s size w hT he;have hne:(s.e == 0)=false:=by simpa using he
  clear hr hblk hbs he;generalize s.e=er at *;go_enter Tryz.func57,Tryz.ntmps57;go_wp2_with fail;refine hcall.mono ?_;rintro e w' ⟨rfl,rfl⟩
  go_wp2
  go_ret;exact⟨_,rfl,rfl,grown_below (Below.refl _ _) _,hT⟩
theorem takeF_len (s:TSt) (n:Nat):(takeF s n).2.l.length≤s.l.length:=by
 unfold takeF;split
 ·exact Nat.le_refl _
 ·split
  ·exact Nat.le_refl _
  ·simp
theorem tNum_len (s:TSt) (size:Int):(tNum s size).2.l.length≤s.l.length:=by
 unfold tNum;split
 ·exact Nat.le_refl _
 ·exact takeF_len _ _
theorem takeF_le (s:TSt) (n:Nat):(takeF s n).1.length≤n:=by
 unfold takeF;split
 ·simp
 ·split
  ·simp
  ·simp;omega
theorem tNum_lt (s:TSt) (k:Nat):(tNum s (k:Int)).1<256 ^ k:=by
 unfold tNum;split
 ·exact Nat.pow_pos (by decide)
 ·exact Nat.lt_of_lt_of_le (beVal_lt _) (Nat.pow_le_pow_right (by decide) (takeF_le _ _))
theorem tText_any (t:Nat) (s:TSt) (w:World) (h:Tk w t s) (hreach:s.l.length≤140737488351232) :
 Calls Tryz.prog 58 #[.pointer (some ⟨t,0,none⟩)] w (TkPost w t (fun _ v=>v=.string (strOf (tText s).1)) (tText s).2):=by
 have hlt:=tNum_lt s 1;have hlen:=tNum_len s 1;have hcall:=tNum_any t s 1 w h hreach;obtain⟨n,s1,hs⟩:∃n s1,tNum s 1=(n,s1):=⟨_,_,rfl⟩
 have hr:tText s=takeF s1 n:=by simp[tText,hs]
 have hs':tNum s ((1:Nat):Int)=(n,s1):=hs;rw[hs] at hcall hlen;rw[hs'] at hlt;rw[hr];dsimp only at hlt hlen hcall;clear hr hs hs';go_enter Tryz.func58,Tryz.ntmps58;go_wp2_with fail;refine hcall.mono ?_;rintro e w1 ⟨v,rfl,rfl,hgr,hnew⟩;go_wp2_with fail;refine(some_str_any t s1 n w1 hnew (by omega)).mono ?_;rintro e w2 ⟨v,rfl,rfl,hgr2,hnew2⟩
 go_wp2
 go_ret;exact⟨_,rfl,rfl,grown_trans hgr hgr2,hnew2⟩
theorem tRest_any (t:Nat) (s:TSt) (w:World) (h:Tk w t s) (hreach:s.l.length≤140737488351232) :
 Calls Tryz.prog 199 #[.pointer (some ⟨t,0,none⟩)] w (TkPost w t (fun w' v=>w'.ownsRow w.heap.size 5 1 v (tRest s).1.length ((toI (tRest s).1).map (Value.int .u8))) (tRest s).2):=by
 have hcall:=some_bytes_any t s s.l.length w h hreach;obtain⟨a,cap,hblk,hbs⟩:=h;have hc0:w.cell? ⟨t,0,none⟩=some (.slice a s.l.length cap):=by simp[World.cell?,hblk]
 clear hblk hbs;go_enter Tryz.func199,Tryz.ntmps199;go_wp2_with fail;refine hcall.mono ?_;rintro e w2 ⟨v,rfl,hown,hgr2,hnew2⟩
 go_wp2
 go_ret;exact⟨_,rfl,hown,hgr2,hnew2⟩
open Go.RowKit
def slotS (b:List UInt8) (i:Nat):Nat:=(b[6+i]?.getD 0).toNat
def endS (b:List UInt8):Nat→Nat
 | 0=>128
 | i+1=>slotS b i
def okSC (b:List UInt8) (n:Nat):Bool:=(List.range n).all fun i=>decide (slotS b i≤endS b i)
def cellS (b:List UInt8) (i:Nat):List UInt8:=(b.drop (slotS b i)).take (endS b i-slotS b i)
def cutS (b:List UInt8) (n:Nat):List (List UInt8):=(List.range n).map (cellS b)
def kindS (b:List UInt8):UInt8:=b[4]?.getD 0
def numS (b:List UInt8):Nat:=(b[5]?.getD 0).toNat
def unpB (b:List UInt8):Bool:=okSC b (min (numS b) 122) && (fits (kindS b) (cutS b (min (numS b) 122)) && pageOf (kindS b) (cutS b (min (numS b) 122)) == b)
def unpE (b:List UInt8):Int:=if b.length≠128 then 1 else if beVal (b.take 4)≠crcOf (b.drop 4) then 12 else if unpB b then 0 else 11
def unpK (b:List UInt8):UInt8:=if unpE b=0 then kindS b else 0
def unpL (b:List UInt8):List (List UInt8):=if unpE b=0 then cutS b (min (numS b) 122) else []
theorem okS_succ (b:List UInt8) (n:Nat):okSC b (n+1)=(okSC b n && decide (slotS b n≤endS b n)):=by
 simp[okSC,List.range_succ]
theorem cutS_succ (b:List UInt8) (n:Nat):cutS b (n+1)=cutS b n++[cellS b n]:=by
 simp[cutS,List.range_succ]
theorem cutS_length (b:List UInt8) (n:Nat):(cutS b n).length=n:=by simp[cutS]
theorem slotS_lt (b:List UInt8) (i:Nat):slotS b i<256:=(b[6+i]?.getD 0).toNat_lt
theorem okS_end (b:List UInt8) (n:Nat) (h:okSC b n=true):endS b n≤128:=by
 induction n with
 | zero=>simp[endS]
 | succ n ih=>
  rw[okS_succ,Bool.and_eq_true,decide_eq_true_eq] at h;have:=ih h.1;rw[show endS b (n+1)=slotS b n from rfl];omega
theorem okS_mono (b:List UInt8) {m n:Nat} (h:okSC b m=false) (hmn:m≤n):okSC b n=false:=by
 rw[okSC,List.all_eq_false] at h ⊢;obtain⟨x,hx,hx2⟩:=h;exact⟨x,by simp at hx ⊢;omega,hx2⟩
theorem cellS_length (b:List UInt8) (n:Nat) (hb:b.length=128) (h:okSC b (n+1)=true):(cellS b n).length=endS b n-slotS b n:=by
 have h1:=okS_end b n (by rw[okS_succ,Bool.and_eq_true] at h;exact h.1);simp[cellS];omega
theorem cutS_lens (b:List UInt8) (n:Nat) (hb:b.length=128) (h:okSC b n=true):lens (cutS b n)=128-endS b n:=by
 induction n with
 | zero=>simp[cutS,lens,endS]
 | succ n ih=>
  have h0:=h;rw[okS_succ,Bool.and_eq_true,decide_eq_true_eq] at h;have h1:=okS_end b n h.1;rw[cutS_succ,lens_append,lens_one,ih h.1,cellS_length b n hb h0,show endS b (n+1)=slotS b n from rfl];omega
def OwnBss (w:World) (base:Nat) (v:Value) (l:List (List UInt8)):Prop:=
 ∃vs,w.ownsRow base 42 1 v l.length vs∧vs.length=l.length∧∀(i:Nat) (c:List UInt8),l[i]? = some c→∃u,vs[i]? = some u∧w.ownsRow base 5 1 u c.length ((toI c).map (Value.int .u8))
theorem own_types {w:World} {b1 b2 s1 s2 n1 n2:Nat} {e1 e2:TypeId} {v1 v2:Value} {xs1 xs2:List Value} (h1:w.ownsRow b1 e1 s1 v1 n1 xs1) (h2:w.ownsRow b2 e2 s2 v2 n2 xs2) (hne:e1≠e2):v1.ownBlock=none∨v1.ownBlock≠v2.ownBlock:=by
 rcases h1.2 with⟨rfl,rfl⟩|⟨g,cap,cur,rfl,_,hg,_⟩
 ·exact .inl rfl
 ·right
  rcases h2.2 with⟨rfl,rfl⟩|⟨g2,cap2,cur2,rfl,_,hg2,_⟩
  ·intro e;cases e
  ·intro e
   have e':g=g2:=by simpa[Value.ownBlock] using e
   subst e';rw[hg] at hg2;cases hg2;exact hne rfl
theorem own_below {w w':World} {base:Nat} {e:TypeId} {size:Nat} {v:Value} {n:Nat} {xs:List Value} {B:Nat} (h:w.ownsRow base e size v n xs) (hB:w.heap.size≤B) (hb:Below B w w'):w'.ownsRow base e size v n xs:=by
 refine⟨h.1,h.2.imp id fun⟨g,cap,cur,e1,hg,hh,r⟩=>⟨g,cap,cur,e1,hg,?_,r⟩⟩;rw[hb.block g (Nat.lt_of_lt_of_le (Array.getElem?_eq_some_iff.1 hh).1 hB)];exact hh
theorem OwnBss.nil (w:World) (base:Nat):OwnBss w base (.slice none 0 0) []:=⟨[],World.ownsRow_nil _ _ _ _,rfl,fun i c h=>by simp at h⟩
theorem OwnBss.below {w w':World} {base:Nat} {v:Value} {l:List (List UInt8)} {B:Nat} (h:OwnBss w base v l) (hB:w.heap.size≤B) (hb:Below B w w'):OwnBss w' base v l:=by
 obtain⟨vs,h1,h2,h3⟩:=h;exact⟨vs,own_below h1 hB hb,h2,fun i c hc=>by obtain⟨u,e1,e2⟩:=h3 i c hc;exact⟨u,e1,own_below e2 hB hb⟩⟩
theorem OwnBss.snoc {w w':World} {base:Nat} {v v' u:Value} {n:Nat} {l:List (List UInt8)} {c:List UInt8} {vs:List Value} (h1:w.ownsRow base 42 1 v n vs) (hn:n=l.length)
 (h2:vs.length=l.length) (h3:∀(i:Nat) (c:List UInt8),l[i]? = some c→∃u,vs[i]? = some u∧w.ownsRow base 5 1 u c.length ((toI c).map (Value.int .u8)))
 (hu:w.ownsRow base 5 1 u c.length ((toI c).map (Value.int .u8))) (hg:w.grownBy w' v.ownBlock) (h1':w'.ownsRow base 42 1 v' (n+1) (vs++[u])):OwnBss w' base v' (l++[c]):=by
 refine⟨vs++[u],by rw[List.length_append,←hn];exact h1',by simp[h2],fun i d hd=>?_⟩
 by_cases hi:i<l.length
 ·rw[List.getElem?_append_left hi] at hd
  obtain⟨x,e1,e2⟩:=h3 i d hd;exact⟨x,by rw[List.getElem?_append_left (by omega)];exact e1,e2.kept hg (own_types e2 h1 (by decide))⟩
 ·have hlen:=(List.getElem?_eq_some_iff.1 hd).1
  simp at hlen;obtain rfl:i=l.length:=by omega
  rw[List.getElem?_append_right (Nat.le_refl _),Nat.sub_self] at hd;cases hd;exact⟨u,by rw[List.getElem?_append_right (by omega),h2,Nat.sub_self];rfl,hu.kept hg (own_types hu h1 (by decide))⟩
theorem OwnBss.bss {w:World} {base:Nat} {v:Value} {l:List (List UInt8)} (h:OwnBss w base v l):∃a cap,v=.slice a l.length cap∧Bss w a l.length cap l:=by
 obtain⟨vs,⟨h1,h2⟩,h3,h4⟩:=h;simp only[Nat.mul_one] at h1
 rcases h2 with⟨rfl,h0⟩|⟨g,cap,cur,rfl,hb,hg,hn,hm,hc,ht⟩
 ·rw[h0]
  exact⟨none,0,rfl,h0,Nat.le_refl _,by unfold maxLen;omega,fun _=>rfl,.inl rfl⟩
 ·refine⟨_,cap,rfl,rfl,hn,hm,(fun h=>by cases h),.inr ⟨g,0,rfl,(Array.getElem?_eq_some_iff.1 hg).1,fun i y hy=>?_⟩⟩
  obtain⟨u,e1,e2⟩:=h4 i y hy;obtain⟨a,cp,rfl,hbs⟩:=Bs.of_own e2;refine⟨[.slice a y.length cp],rfl,⟨a,_,cp,rfl,hbs⟩,fun j x hx=>?_⟩;have hi:=(List.getElem?_eq_some_iff.1 hy).1
  match j,hx with
  | 0,hx=>
   cases hx;simp only[World.cell?,hg,Nat.zero_add,Nat.mul_one,Nat.add_zero];have e:(cur.toList.take (l.length*1))[i]? = cur.toList[i]? := List.getElem?_take_of_lt (by omega);rw[ht] at e;rw[←Array.getElem?_toList,←e];exact e1
  | j+1,hx=>simp at hx
theorem Bs.sub {w:World} {a:Option Addr} {len cap:Nat} {L:List UInt8} (h:Bs w a len cap L) (l r m:Nat) (h1:l≤r) (h2:r≤len) (h3:r≤m) (h4:m≤cap) :
 Bs w (if m=l then a else a.map (·.add (l*1))) (r-l) (m-l) ((L.drop l).take (r-l)):=by
 have hl:=h.len;have hc:=h.cap;refine⟨by simp[toI_length];omega,by omega,by omega,(fun hn=>?_),?_⟩
 ·by_cases e:m=l
  ·omega
  ·rw[if_neg e] at hn
   have:a=none:=by simpa using hn
   have:=h.2.2.2.1 this;omega
 ·by_cases e:r=l
  ·exact .inl (by omega)
  ·obtain⟨b,off,rfl,hb,hcell⟩:=h.cell (k:=l) (by omega)
   refine .inr ⟨b,off+l,by rw[if_neg (by omega)];simp[add_none],hb,fun i hi=>?_⟩;rw[toI_get,Nat.add_assoc,hcell (l+i) (by omega)];simp[hi]
theorem sub_run {P:Program} {T:TypeId} (hT:P.underlying T=some (.slice (P.elem T))) (hz:∀w,(sizeOf (P.elem T)).run P w=.ok 1 w) (a:Option Addr) (len cap l r m:Nat) (h1:l≤r) (h3:r≤m) (h4:m≤cap) :
 ∃a2,a2=(if m=l then a else a.map (·.add (l*1)))∧∀(k k2 k3:IntKind) w,(Instr.slice T (.slice a len cap) (some (.int k l)) (some (.int k2 r)) (some (.int k3 m))).run P w=.ok (.slice a2 (r-l) (m-l)) w:=by
 refine⟨_,rfl,fun k k2 k3 w=>?_⟩;rw[run_slice_lhm w T a len cap hT k k2 k3 l r m (by omega) (by omega) (by omega) (by omega),hz]
 rfl
theorem beVal_beBytes (x n:Nat):beVal (beBytes x n)=x % 256 ^ n:=by
 induction n generalizing x with
 | zero=>simp[beBytes,beVal_nil,Nat.mod_one]
 | succ n ih=>
  have e:256 ^ (n+1)=256*256 ^ n:=by rw[Nat.pow_succ,Nat.mul_comm]
  have e2:x % 2 ^ 8=x % 256:=rfl;rw[beBytes,beVal_snoc,ih,UInt8.toNat_ofNat',e,Nat.mod_mul,e2];omega
theorem tNum_be (x n:Nat) (h1:1≤n) (h8:n≤8) (hx:x<256 ^ n) (r:List UInt8):tNum ⟨beBytes x n++r,0⟩ (n:Int)=(x,⟨r,0⟩):=by
 have hl:=beBytes_length x n;rw[tNum,if_neg (by simp;omega)];have:takeF ⟨beBytes x n++r,0⟩ n=(beBytes x n,⟨r,0⟩):=by
  simp only[takeF];rw[if_neg (by simp),if_neg (by simp[hl])];simp[hl]
 rw[Int.toNat_natCast,this,beVal_beBytes,Nat.mod_eq_of_lt hx]
section
variable (X N:Nat→Nat)
end
theorem slotsOf_get (l:List (List UInt8)) (i e:Nat) (h:i<l.length):(slotsOf e l)[i]? = some (UInt8.ofNat (e-lens (l.take (i+1)))):=by
 induction l generalizing i e with
 | nil=>simp at h
 | cons c r ih=>
  match i with
  | 0=>simp[slotsOf,lens]
  | i+1=>
   have:=ih i (e-c.length) (by simpa using h);simp only[slotsOf,List.getElem?_cons_succ,this,List.take_succ_cons]
   congr 2
   simp[lens,Nat.sub_sub]
theorem pageOf_five' (kind:UInt8) (c:List (List UInt8)):(pageOf kind c)[5]? = some (UInt8.ofNat c.length):=by
 rw[pageOf,List.getElem?_append_right (by rw[beBytes_length];omega),beBytes_length];rfl
theorem page_kind (kind:UInt8) (l:List (List UInt8)) (_hfit:l.length+lens l≤122):kindS (pageOf kind l)=kind:=by
 rw[kindS,pageOf,List.getElem?_append_right (by rw[beBytes_length];omega),beBytes_length];rfl
theorem page_num (kind:UInt8) (l:List (List UInt8)) (hfit:l.length+lens l≤122):numS (pageOf kind l)=l.length:=by
 rw[numS,pageOf_five' kind l];simp;omega
theorem page_slot (kind:UInt8) (l:List (List UInt8)) (_hfit:l.length+lens l≤122) (i:Nat) (h:i<l.length):slotS (pageOf kind l) i=128-lens (l.take (i+1)):=by
 have hl:=lens_take_le l (i+1);have e:(pageOf kind l)[6+i]? = some (UInt8.ofNat (128-lens (l.take (i+1)))):=by
  rw[pageOf,List.getElem?_append_right (by rw[beBytes_length];omega),beBytes_length,show 6+i-4=i+2 by omega,bodyOf];simp only[List.getElem?_cons_succ];rw[List.getElem?_append_left (by rw[slotsOf_length];exact h),slotsOf_get l i 128 h]
 rw[slotS,e];simp;omega
theorem page_end (kind:UInt8) (l:List (List UInt8)) (hfit:l.length+lens l≤122) (i:Nat) (h:i≤l.length):endS (pageOf kind l) i=128-lens (l.take i):=by
 match i with
 | 0=>simp[endS,lens]
 | i+1=>exact page_slot kind l hfit i h
theorem page_ok (kind:UInt8) (l:List (List UInt8)) (hfit:l.length+lens l≤122):okSC (pageOf kind l) l.length=true:=by
 rw[okSC,List.all_eq_true];intro i hi;rw[List.mem_range] at hi;rw[decide_eq_true_eq,page_slot kind l hfit i hi,page_end kind l hfit i (by omega),lens_take_succ l i hi];omega
theorem page_cell (kind:UInt8) (l:List (List UInt8)) (hfit:l.length+lens l≤122) (i:Nat) (h:i<l.length):cellS (pageOf kind l) i=l[i]:=by
 have h1:=page_slot kind l hfit i h;have h2:=page_end kind l hfit i (by omega);have hle:=lens_take_le l (i+1);have hs:=lens_take_succ l i h;have hg:l[i]?.getD []=l[i]:=by rw[List.getElem?_eq_getElem h];rfl
 rw[hg] at hs;have hsplit:backOf l=backOf (l.drop (i+1))++(l[i]++backOf (l.take i)):=by
  have e:l=l.take i++([l[i]]++l.drop (i+1)):=by simp
  conv=>lhs;rw[e]
  rw[backOf_append,backOf_append,backOf_one,List.append_assoc]
 have hlen:lens l=lens (l.take (i+1))+lens (l.drop (i+1)):=by rw[←lens_append,List.take_append_drop]
 have hp:pageOf kind l=(beBytes (crcOf (bodyOf kind l.length l)) 4++(kind::UInt8.ofNat l.length::(slotsOf 128 l++(List.replicate (122-l.length-lens l) 0++backOf (l.drop (i+1))))))++(l[i]++backOf (l.take i)):=by
  rw[pageOf]
  conv=>lhs;arg 2;rw[bodyOf,hsplit]
  simp[List.append_assoc]
 rw[cellS,h1,h2,hp];have hlen2:(beBytes (crcOf (bodyOf kind l.length l)) 4++(kind::UInt8.ofNat l.length::(slotsOf 128 l++(List.replicate (122-l.length-lens l) 0++backOf (l.drop (i+1)))))).length=128-lens (l.take (i+1)):=by
  simp only[List.length_append,List.length_cons,beBytes_length,slotsOf_length,List.length_replicate,backOf_length];omega
 rw[←hlen2,List.drop_left,hlen2];have:128-lens (l.take i)-(128-lens (l.take (i+1)))=l[i].length:=by omega
 rw[this,List.take_left]
theorem page_cut (kind:UInt8) (l:List (List UInt8)) (hfit:l.length+lens l≤122):cutS (pageOf kind l) l.length=l:=by
 apply List.ext_getElem
 ·simp[cutS]
 ·intro i h1 h2
  simp only[cutS,List.getElem_map,List.getElem_range];exact page_cell kind l hfit i h2
theorem page_back (kind:UInt8) (l:List (List UInt8)) (h:fits kind l=true):unpE (pageOf kind l)=0∧unpK (pageOf kind l)=kind∧unpL (pageOf kind l)=l:=by
 have hfit:l.length+lens l≤122:=by
  simp only[fits,Bool.and_eq_true,decide_eq_true_eq] at h;exact h.2
 have hlen:=pageOf_length kind l hfit;have hn:=page_num kind l hfit;have hk:=page_kind kind l hfit;have hmin:min l.length 122=l.length:=Nat.min_eq_left (by omega);have hc:=page_cut kind l hfit;have hB:unpB (pageOf kind l)=true:=by
  rw[unpB,hn,hk,hmin,hc,page_ok kind l hfit,h];simp
 have hsum:beVal ((pageOf kind l).take 4)=crcOf ((pageOf kind l).drop 4):=by
  have e1:(pageOf kind l).take 4=beBytes (crcOf (bodyOf kind l.length l)) 4:=by
   rw[pageOf,List.take_append_of_le_length (by rw[beBytes_length];omega),List.take_of_length_le (by rw[beBytes_length];omega)]
  have e2:(pageOf kind l).drop 4=bodyOf kind l.length l:=by
   rw[pageOf];have:=List.drop_left (l₁:=beBytes (crcOf (bodyOf kind l.length l)) 4) (l₂:=bodyOf kind l.length l)
   rwa [beBytes_length] at this
  have hx:=crcOn_lt 0 (bodyOf kind l.length l);rw[e1,e2,beVal_beBytes,Nat.mod_eq_of_lt (by exact hx)]
 have hE:unpE (pageOf kind l)=0:=by
  rw[unpE,if_neg (by omega),if_neg (by simpa using hsum),if_pos hB]
 refine⟨hE,?_,?_⟩
 ·rw[unpK,hE,hk];rfl
 ·rw[unpL,hE,hn,hmin,hc];rfl
open Go.RowKit
def UnpPost (w:World) (k:UInt8) (l:List (List UInt8)) (er:Int) (e:Ending) (w':World):Prop:=
 ∃v,e=.returned (.tuple #[.int .u8 (k.toNat:Int),v,.int .i64 er])∧OwnBss w' w.heap.size v l∧Below w.heap.size w w'
theorem unpack_len (a:Option Addr) (len cap:Nat) (l:List UInt8) (w:World) (h:Bs w a len cap l) (hl:len≠128) :
 Calls Tryz.prog 138 #[.slice a len cap] w fun e w'=>e=.returned (.tuple #[.int .u8 0,.slice none 0 0,.int .i64 1])∧w=w':=by
 have hne:((len:Int) != 128)=true:=by simp;omega
 have hne2:((len:Int) == 128)=false:=by simp;omega
 have hc:=h.cap;unfold maxLen at hc;go_enter Tryz.func138,Tryz.ntmps138
 go_wp2
 go_ret3
 exact⟨rfl,rfl⟩
theorem tNum_four (l:List UInt8) (h:4≤l.length):tNum ⟨l,0⟩ 4=(beVal (l.take 4),⟨l.drop 4,0⟩):=by
 simp[tNum,takeF,show ¬l.length<4 by omega]
theorem unpack_sum (a:Option Addr) (cap:Nat) (l:List UInt8) (w:World) (h:Bs w a 128 cap l) (hh:Half w) (hs:beVal (l.take 4)≠crcOf (l.drop 4)) :
 Calls Tryz.prog 138 #[.slice a 128 cap] w (UnpPost w 0 [] 12):=by
 have m8bd736:=trivial;exact qf197a8
def UnpOk (w:World) (l:List UInt8) (m:Nat) (e:Ending) (w':World):Prop:=
 if okSC l m && (fits (kindS l) (cutS l m) && pageOf (kindS l) (cutS l m) == l) then UnpPost w (kindS l) (cutS l m) 0 e w' else UnpPost w 0 [] 11 e w'
theorem sub_run6 (b off cap n:Nat) (hn:n≤122) (hc:128≤cap) (W:World):(Instr.slice 42 (.slice (some ⟨b,off,none⟩) 128 cap) (some (.int .i64 6)) (some (.int .i64 (6+(n:Int)))) (some (.int .i64 128))).run Tryz.prog W=.ok (.slice (some ⟨b,off+6,none⟩) n 122) W:=by
 obtain⟨sa,hsa,hsr⟩:=sub_run elem_bytes size_bytes (some ⟨b,off,none⟩) 128 cap 6 (6+n) 128 (by omega) (by omega) (by omega);have:=hsr .i64 .i64 .i64 W;rw[show 6+n-6=n by omega,hsa] at this;simpa[add_none] using this
theorem info_bytes:(Tryz.prog.info? 42).map (fun i=>(i.zero,i.size,i.bytes))=some (some (.slice none 0 0),1,24):=by kernel_rfl
theorem unpack_ok (a:Option Addr) (cap:Nat) (l:List UInt8) (w:World) (h:Bs w a 128 cap l) (hh:Half w) (hs:beVal (l.take 4)=crcOf (l.drop 4)) (m:Nat) (hm:(numS l≤122∧m=numS l)∨(122<numS l∧m=122)) :
 Calls Tryz.prog 138 #[.slice a 128 cap] w (UnpOk w l m):=by
 have mdd070a:=trivial;exact qf197a8
open Go.RowKit
theorem beBytes_beVal (t:List UInt8):beBytes (beVal t) t.length=t:=by
 have key:∀r:List UInt8,beBytes (beVal r.reverse) r.reverse.length=r.reverse:=by
  intro r
  induction r with
  | nil=>rfl
  | cons b r ih=>
   rw[List.reverse_cons,beVal_snoc,List.length_append];show beBytes _ (r.reverse.length+1)=_;rw[beBytes];have hb:=b.toNat_lt;have e1:(beVal r.reverse*256+b.toNat) / 256=beVal r.reverse:=by omega
   have e2:UInt8.ofNat (beVal r.reverse*256+b.toNat)=b:=by
    apply UInt8.toNat_inj.1;rw[UInt8.toNat_ofNat'];omega
   rw[e1,e2,ih]
 have:=key t.reverse
 rwa [List.reverse_reverse] at this
theorem be_iff (t:List UInt8) (x:Nat) (hx:x<256 ^ t.length):(beBytes x t.length == t)=decide (beVal t=x):=by
 by_cases h:beVal t=x
 ·subst h;rw[beBytes_beVal];simp
 ·have:beBytes x t.length≠t:=by
   intro e;apply h;have h2:=beVal_beBytes x t.length;rw[e,Nat.mod_eq_of_lt hx] at h2;exact h2
  simp[h,this]
theorem unpack_any (a:Option Addr) (len cap:Nat) (l:List UInt8) (w:World) (h:Bs w a len cap l) (hh:Half w) :
 Calls Tryz.prog 138 #[.slice a len cap] w (UnpPost w (unpK l) (unpL l) (unpE l)):=by
 have hl:=h.len
 by_cases h1:len=128
 ·subst h1
  by_cases h2:beVal (l.take 4)=crcOf (l.drop 4)
  ·refine(unpack_ok a cap l w h hh h2 (min (numS l) 122) (by omega)).mono ?_
   intro e w' hp;unfold UnpOk at hp;have hE:unpE l=if unpB l then 0 else 11:=by rw[unpE,if_neg (by omega),if_neg (by simpa using h2)]
   by_cases hB:unpB l=true
   ·rw[if_pos (show(okSC l (min (numS l) 122) && (fits (kindS l) (cutS l (min (numS l) 122)) && pageOf (kindS l) (cutS l (min (numS l) 122)) == l))=true from hB)] at hp
    rw[if_pos hB] at hE;rw[unpK,unpL,hE];exact hp
   ·have hn:¬(okSC l (min (numS l) 122) && (fits (kindS l) (cutS l (min (numS l) 122)) && pageOf (kindS l) (cutS l (min (numS l) 122)) == l))=true:=hB
    rw[if_neg hn] at hp;rw[if_neg hB] at hE;rw[unpK,unpL,hE];exact hp
  ·refine(unpack_sum a cap l w h hh h2).mono ?_
   intro e w' hp;have hE:unpE l=12:=by rw[unpE,if_neg (by omega),if_pos h2]
   rw[unpK,unpL,hE];exact hp
 ·refine(unpack_len a len cap l w h h1).mono ?_
  rintro e w' ⟨rfl,rfl⟩;have hE:unpE l=1:=by rw[unpE,if_pos (by omega)]
  rw[unpK,unpL,hE];exact⟨_,rfl,OwnBss.nil _ _,Below.refl _ _⟩
structure Vv where
 data:List UInt8
 far:Bool
 size:Int
 page:Int
deriving DecidableEq
structure En where
 key:List UInt8
 v:Vv
deriving DecidableEq
def Vv.zero:Vv:=⟨[],false,0,0⟩
def u64N (n:Int):Nat:=(n % 18446744073709551616).toNat
theorem u64N_lt (n:Int):u64N n<18446744073709551616:=by unfold u64N;omega
theorem u64N_of {n:Int} (h0:0≤n) (h1:n<18446744073709551616):u64N n=n.toNat:=by unfold u64N;rw[Int.emod_eq_of_lt h0 h1]
def two (n:Int):List UInt8:=beBytes (u64N n) 2
theorem two_length (n:Int):(two n).length=2:=beBytes_length _ _
def encL (v:Vv):List UInt8:=if v.far then [1]++two v.size++two v.page else [0]++v.data
def encB (v:Vv):List UInt8:=two v.page
def encV (leaf:Bool) (v:Vv):List UInt8:=if leaf then encL v else encB v
def cellN (leaf:Bool) (e:En):List UInt8:=textF e.key++encV leaf e.v
def cellsN (leaf:Bool) (l:List En):List (List UInt8):=l.map (cellN leaf)
theorem cellsN_length (leaf:Bool) (l:List En):(cellsN leaf l).length=l.length:=by simp[cellsN]
theorem textF_length (k:List UInt8):(textF k).length=min k.length 255+1:=by simp[textF];omega
theorem encV_length (leaf:Bool) (v:Vv):(encV leaf v).length=if leaf then (if v.far then 5 else v.data.length+1) else 2:=by
 cases leaf
 ·simp[encV,encB,two_length]
 ·cases h:v.far<;>simp[encV,encL,h,two_length]
def keyB (k:List UInt8):Bool:=k != [] && decide (k.length≤16)
def pageB (n:Int):Bool:=decide (2≤n) && decide (n≤999)
def mayL (e:En):Bool:=
 if e.v.far then keyB e.key && (e.v.data == [] && (decide (16<e.v.size) && (decide (e.v.size≤400) && pageB e.v.page)))
 else keyB e.key && (decide (e.v.data.length≤16) && (e.v.size == 0 && e.v.page == 0))
def firstB (i:Nat) (k:List UInt8):Bool:=if i=0 then k == [] else keyB k
def mayB (i:Nat) (e:En):Bool:=firstB i e.key && (pageB e.v.page && e.v == ⟨[],false,0,e.v.page⟩)
def mayN (leaf:Bool) (i:Nat) (e:En):Bool:=if leaf then mayL e else mayB i e
def leastN (leaf:Bool):Nat:=if leaf then 1 else 2
def kle (a b:List UInt8):Bool:=decide (a<b) || a == b
def stepN (leaf:Bool) (l:List En) (i:Nat):Bool:=mayN leaf i (l[i]?.getD ⟨[],Vv.zero⟩) && !(decide (0<i) && kle (l[i]?.getD ⟨[],Vv.zero⟩).key (l[i-1]?.getD ⟨[],Vv.zero⟩).key)
def upN (leaf:Bool) (l:List En) (n:Nat):Bool:=(List.range n).all (stepN leaf l)
def nodeB (leaf:Bool) (l:List En):Bool:=upN leaf l l.length && (decide (leastN leaf≤l.length) && decide (l.length+lens (cellsN leaf l)≤122))
theorem upN_succ (leaf:Bool) (l:List En) (n:Nat):upN leaf l (n+1)=(upN leaf l n && stepN leaf l n):=by simp[upN,List.range_succ]
theorem upN_mono (leaf:Bool) (l:List En) {m n:Nat} (h:upN leaf l m=false) (hmn:m≤n):upN leaf l n=false:=by
 rw[upN,List.all_eq_false] at h ⊢;obtain⟨x,hx,hx2⟩:=h;exact⟨x,by simp at hx ⊢;omega,hx2⟩
def kindN (leaf:Bool):UInt8:=if leaf then 1 else 2
def putN (leaf:Bool) (l:List En):List UInt8:=if nodeB leaf l then pageOf (kindN leaf) (cellsN leaf l) else []
def putNE (leaf:Bool) (l:List En):Int:=if nodeB leaf l then 0 else 1
theorem fits_node {leaf:Bool} {l:List En} (h:nodeB leaf l=true):fits (kindN leaf) (cellsN leaf l)=true:=by
 simp only[nodeB,Bool.and_eq_true,decide_eq_true_eq] at h;simp only[fits,Bool.and_eq_true,decide_eq_true_eq,cellsN_length];exact⟨by cases leaf<;>rfl,h.2.2⟩
theorem pack_node {leaf:Bool} {l:List En} (h:nodeB leaf l=true):packV (kindN leaf) (cellsN leaf l)=putN leaf l∧packE (kindN leaf) (cellsN leaf l)=putNE leaf l:=by
 rw[packV,packE,putN,putNE,h,fits_node h];exact⟨rfl,rfl⟩
def decV (leaf:Bool) (s:TSt):Option Vv:=
 if leaf then
  if (tNum s 1).1=0 then (if tDone (tRest (tNum s 1).2).2=0 then some ⟨(tRest (tNum s 1).2).1,false,0,0⟩ else none)
  else if (tNum s 1).1=1 then (if tDone (tNum (tNum (tNum s 1).2 2).2 2).2=0 then some ⟨[],true,((tNum (tNum s 1).2 2).1:Int),((tNum (tNum (tNum s 1).2 2).2 2).1:Int)⟩ else none)
  else none
 else if tDone (tNum s 2).2=0 then some ⟨[],false,0,((tNum s 2).1:Int)⟩ else none
def decE (leaf:Bool) (c:List UInt8):Option En:=(decV leaf (tText ⟨c,0⟩).2).map fun v=>⟨(tText ⟨c,0⟩).1,v⟩
def decL (leaf:Bool):List (List UInt8)→Option (List En)
 | []=>some []
 | c::r=>match decE leaf c,decL leaf r with
  | some e,some l=>some (e::l)
  | _,_=>none
theorem decL_append (leaf:Bool) (a b:List (List UInt8)):decL leaf (a++b)=match decL leaf a,decL leaf b with
 | some x,some y=>some (x++y)
 | _,_=>none:=by
 induction a with
 | nil=>simp only[List.nil_append,decL];cases decL leaf b<;>rfl
 | cons c r ih=>
  simp only[List.cons_append,decL,ih];cases decE leaf c<;>cases decL leaf r<;>cases decL leaf b<;>rfl
theorem decL_snoc (leaf:Bool) (a:List (List UInt8)) (c:List UInt8):decL leaf (a++[c])=match decL leaf a,decE leaf c with
 | some x,some y=>some (x++[y])
 | _,_=>none:=by
 rw[decL_append];simp only[decL];cases decL leaf a<;>cases decE leaf c<;>rfl
theorem decL_length {leaf:Bool}:∀{a:List (List UInt8)} {l:List En},decL leaf a=some l→l.length=a.length
 | [],l,h=>by cases h;rfl
 | c::r,l,h=>by
  simp only[decL] at h;cases hc:decE leaf c with
  | none=>rw[hc] at h;cases h
  | some e=>
   cases hr:decL leaf r with
   | none=>rw[hc,hr] at h;cases h
   | some m=>rw[hc,hr] at h;cases h;simp[decL_length hr]
theorem decL_none {leaf:Bool} {a:List (List UInt8)} {k:Nat} {c:List UInt8} (hk:a[k]? = some c) (h:decE leaf c=none):decL leaf a=none:=by
 induction a generalizing k with
 | nil=>simp at hk
 | cons x r ih=>
  simp only[decL];cases k with
  | zero=>cases hk;rw[h]
  | succ k=>rw[ih (k:=k) hk];cases decE leaf x<;>rfl
def leafK (b:List UInt8):Bool:=unpK b == 1
def entN (b:List UInt8):Option (List En):=decL (leafK b) (unpL b)
def getNB (b:List UInt8):Bool:=decide ((unpK b).toNat≤2) && (match entN b with|some l=>nodeB (leafK b) l|none=>false)
def getNE (b:List UInt8):Int:=if unpE b≠0 then unpE b else if getNB b then 0 else 11
def getNL (b:List UInt8):List En:=if getNE b=0 then (entN b).getD [] else []
def getNF (b:List UInt8):Bool:=if getNE b=0 then leafK b else false
theorem takeF_app (a r:List UInt8) (n:Nat) (h:a.length=n):takeF ⟨a++r,0⟩ n=(a,⟨r,0⟩):=by
 subst h;simp[takeF]
theorem tText_app (k:List UInt8) (h:k.length≤255) (r:List UInt8):tText ⟨textF k++r,0⟩=(k,⟨r,0⟩):=by
 have hk:k.take 255=k:=List.take_of_length_le h;have e:tNum ⟨textF k++r,0⟩ 1=(k.length,⟨k++r,0⟩):=by
  rw[textF,hk];show tNum ⟨[UInt8.ofNat k.length]++(k++r),0⟩ 1=_;have h2:¬((0:Int)=0∧((1:Int)<1∨8<(1:Int))):=by omega
  rw[tNum,if_neg h2,show(1:Int).toNat=1 from rfl,takeF_app _ _ 1 rfl];have:beVal [UInt8.ofNat k.length]=k.length:=by simp[beVal,UInt8.toNat_ofNat'];omega
  rw[this]
 rw[tText,e];exact takeF_app _ _ _ rfl
theorem tNum_two (n:Int) (h0:0≤n) (h1:n<65536) (r:List UInt8):tNum ⟨two n++r,0⟩ 2=(n.toNat,⟨r,0⟩):=by
 have:=tNum_be (u64N n) 2 (by decide) (by decide) (by rw[u64N_of h0 (by omega)];omega) r;rw[u64N_of h0 (by omega)] at this;rw[two,u64N_of h0 (by omega)];exact this
theorem keyB_len {k:List UInt8} (h:keyB k=true):k.length≤16:=by
 simp only[keyB,Bool.and_eq_true,decide_eq_true_eq] at h;exact h.2
theorem pageB_iff (n:Int):pageB n=true↔2≤n∧n≤999:=by simp[pageB]
theorem may_len {leaf:Bool} {i:Nat} {e:En} (h:mayN leaf i e=true):e.key.length≤16:=by
 cases leaf
 ·simp only[mayN,mayB,firstB,Bool.false_eq_true,if_false,Bool.and_eq_true] at h
  split at h
  ·have:=h.1;simp at this;rw[this];simp
  ·exact keyB_len h.1
 ·simp only[mayN,mayL,if_true] at h
  split at h<;>(simp only[Bool.and_eq_true] at h;exact keyB_len h.1)
theorem dec_cell {leaf:Bool} {i:Nat} {e:En} (h:mayN leaf i e=true):decE leaf (cellN leaf e)=some e:=by
 have hl:=may_len h;rw[decE,cellN,tText_app _ (by omega)];obtain⟨k,d,f,s,p⟩:=e;cases leaf
 ·simp only[mayN,mayB,Bool.false_eq_true,if_false,Bool.and_eq_true,pageB_iff] at h
  obtain⟨_,⟨h2,h3⟩,h4⟩:=h;simp only[beq_iff_eq,Vv.mk.injEq] at h4;obtain⟨rfl,rfl,rfl,_⟩:=h4;have e1:=tNum_two p (by omega) (by omega) [];rw[List.append_nil] at e1;simp only[encV,encB,decV,Bool.false_eq_true,if_false,e1];have:((p.toNat:Nat):Int)=p:=by omega
  simp[tDone,this]
 ·simp only[mayN,mayL,if_true] at h
  cases f with
  | true=>
   simp only[if_true,Bool.and_eq_true,decide_eq_true_eq,pageB_iff,beq_iff_eq] at h;obtain⟨_,rfl,h2,h3,h4,h5⟩:=h;have e0:tNum ⟨[1]++(two s++two p),0⟩ 1=(1,⟨two s++two p,0⟩):=by
    exact q125602
   have e1:=tNum_two s (by omega) (by omega) (two p);have e2:=tNum_two p (by omega) (by omega) [];rw[List.append_nil] at e2;simp only[encV,encL,decV,if_true,List.append_assoc,e0,e1,e2];have a1:((p.toNat:Nat):Int)=p:=by omega
   have a2:((s.toNat:Nat):Int)=s:=by omega
   simp[tDone,a1,a2]
  | false=>
   simp only[Bool.false_eq_true,if_false,Bool.and_eq_true,decide_eq_true_eq,beq_iff_eq] at h;obtain⟨_,h2,rfl,rfl⟩:=h;have e0:tNum ⟨[0]++d,0⟩ 1=(0,⟨d,0⟩):=by
    exact q125602
   have e1:tRest ⟨d,0⟩=(d,⟨[],0⟩):=by
    have:=takeF_app d [] d.length rfl
    rwa [List.append_nil] at this
   simp only[encV,encL,decV,Bool.false_eq_true,if_false,if_true,e0,e1];simp[tDone]
theorem dec_cells {leaf:Bool}:∀(l:List En),(∀e∈l,∃i,mayN leaf i e=true)→decL leaf (cellsN leaf l)=some l
 | [],_=>rfl
 | e::l,h=>by
  obtain⟨i,hi⟩:=h e (by simp);have:=dec_cells l (fun x hx=>h x (by simp[hx]));simp only[cellsN,List.map_cons,decL,dec_cell hi];rw[show l.map (cellN leaf)=cellsN leaf l from rfl,this]
theorem upN_may {leaf:Bool} {l:List En} {n:Nat} (h:upN leaf l n=true) {i:Nat} (hi:i<n):stepN leaf l i=true:=by
 rw[upN,List.all_eq_true] at h;exact h i (by simpa using hi)
theorem nodeB_may {leaf:Bool} {l:List En} (h:nodeB leaf l=true):∀e∈l,∃i,mayN leaf i e=true:=by
 intro e he;obtain⟨i,hi⟩:=List.mem_iff_getElem?.1 he;simp only[nodeB,Bool.and_eq_true] at h;have hl:=(List.getElem?_eq_some_iff.1 hi).1;have:=upN_may h.1 hl;simp only[stepN,hi,Option.getD_some,Bool.and_eq_true] at this;exact⟨i,this.1⟩
theorem get_putN {leaf:Bool} {l:List En} (h:nodeB leaf l=true):getNE (putN leaf l)=0∧getNL (putN leaf l)=l∧getNF (putN leaf l)=leaf:=by
 have hp:putN leaf l=pageOf (kindN leaf) (cellsN leaf l):=by rw[putN,if_pos h]
 obtain⟨u1,u2,u3⟩:=page_back (kindN leaf) (cellsN leaf l) (fits_node h);have hk:leafK (putN leaf l)=leaf:=by rw[leafK,hp,u2];cases leaf<;>rfl
 have he:entN (putN leaf l)=some l:=by rw[entN,hk,hp,u3,dec_cells l (nodeB_may h)]
 have hk2:decide ((unpK (putN leaf l)).toNat≤2)=true:=by rw[hp,u2];cases leaf<;>rfl
 have hb:getNB (putN leaf l)=true:=by rw[getNB,hk2,he,hk];exact h
 have hE:getNE (putN leaf l)=0:=by rw[getNE,hp,if_neg (by rw[u1];simp),←hp,if_pos hb]
 exact⟨hE,by rw[getNL,if_pos hE,he];rfl,by rw[getNF,if_pos hE,hk]⟩
open Go.RowKit
def Boxes (w:World) (l:List (Nat×List Value)):Prop:=∀p∈l,∃t,w.heap[p.1]? = some (.cells p.2.toArray t (0,0))
theorem Boxes.nil (w:World):Boxes w []:=fun p h=>by simp at h
theorem Boxes.cons {w:World} {l:List (Nat×List Value)} {b:Nat} {vs:List Value} {t:TypeId} (h:w.heap[b]? = some (.cells vs.toArray t (0,0))) (hl:Boxes w l):Boxes w ((b,vs)::l):=by
 intro p hp
 rcases List.mem_cons.1 hp with rfl|hp
 ·exact⟨t,h⟩
 ·exact hl p hp
theorem Boxes.below {w w':World} {l:List (Nat×List Value)} {B:Nat} (h:Boxes w l) (hB:w.heap.size≤B) (hb:Below B w w'):Boxes w' l:=by
 intro p hp;obtain⟨t,ht⟩:=h p hp;exact⟨t,(hb.block p.1 (Nat.lt_of_lt_of_le (Array.getElem?_eq_some_iff.1 ht).1 hB)).trans ht⟩
theorem Boxes.step {w w':World} {l:List (Nat×List Value)} (h:Boxes w l) (hb:Below w.heap.size w w'):Boxes w' l:=h.below (Nat.le_refl _) hb
theorem Boxes.set {w:World} {l:List (Nat×List Value)} (h:Boxes w l) (a:Addr) (u:Value) (hne:∀p∈l,p.1≠a.block):Boxes (w.setCell a u) l:=by
 intro p hp;obtain⟨t,ht⟩:=h p hp;exact⟨t,(Below.heap_setCell w a u p.1 (hne p hp)).trans ht⟩
theorem Boxes.put {w:World} {l:List (Nat×List Value)} {b:Nat} {vs:List Value} (h:Boxes w ((b,vs)::l)) (i:Nat) (u:Value) (hne:∀p∈l,p.1≠b):Boxes (w.setCell ⟨b,i,none⟩ u) ((b,vs.set i u)::l):=by
 obtain⟨t,ht⟩:=h (b,vs) (by simp);refine Boxes.cons (t:=t) ?_ (Boxes.set (fun p hp=>h p (by simp[hp])) _ _ hne);rw[heap_setCell_at i u ht];simp
theorem Boxes.grown {w w':World} {l:List (Nat×List Value)} {row:Option Nat} (h:Boxes w l) (hg:w.grownBy w' row) (hne:∀p∈l,row≠some p.1):Boxes w' l:=by
 intro p hp;obtain⟨t,ht⟩:=h p hp;exact⟨t,(hg.block p.1 (Array.getElem?_eq_some_iff.1 ht).1 (fun e=>hne p hp e.symm)).trans ht⟩
theorem Boxes.cell {w:World} {l:List (Nat×List Value)} (h:Boxes w l) (n i:Nat) {b:Nat} {vs:List Value} {v:Value} (hn:l[n]? = some (b,vs)) (hv:vs[i]? = some v):w.cell? ⟨b,i,none⟩=some v:=by
 obtain⟨t,ht⟩:=h (b,vs) (List.mem_of_getElem? hn);simp only[World.cell?,ht];simpa using hv
theorem Boxes.frozen {w:World} {l:List (Nat×List Value)} (h:Boxes w l) (n i:Nat) {b:Nat} {vs:List Value} (hn:l[n]? = some (b,vs)):w.frozen? ⟨b,i,none⟩=false:=by
 obtain⟨t,ht⟩:=h (b,vs) (List.mem_of_getElem? hn);simp[World.frozen?,ht]
theorem Boxes.lt {w:World} {l:List (Nat×List Value)} (h:Boxes w l) (n:Nat) {b:Nat} {vs:List Value} (hn:l[n]? = some (b,vs)):b<w.heap.size:=by
 obtain⟨t,ht⟩:=h (b,vs) (List.mem_of_getElem? hn);exact(Array.getElem?_eq_some_iff.1 ht).1
theorem Boxes.alloc {w:World} {l:List (Nat×List Value)} (h:Boxes w l) (vs:Array Value) (t:TypeId) {b:Nat} (hb:w.heap.size=b):Boxes (w.alloc (.cells vs t)) ((b,vs.toList)::l):=by
 subst hb;exact Boxes.cons (t:=t) (by rw[World.alloc_heap_new w (.cells vs t)]) (h.step ((Below.refl _ _).alloc (Nat.le_refl _) _))
theorem Boxes.sub {w:World} {l m:List (Nat×List Value)} (h:Boxes w l) (hm:∀p∈m,p∈l):Boxes w m:=fun p hp=>h p (hm p hp)
theorem Boxes.drew {w:World} {l:List (Nat×List Value)} (h:Boxes w l):Boxes w.drew l:=h
theorem own_set {w:World} {base:Nat} {e:TypeId} {size:Nat} {v:Value} {n:Nat} {xs:List Value} (h:w.ownsRow base e size v n xs) (a:Addr) (u:Value) (hne:v.ownBlock≠some a.block):(w.setCell a u).ownsRow base e size v n xs:=by
 refine⟨h.1,h.2.imp id fun⟨g,cap,cur,e1,hg,hh,r⟩=>⟨g,cap,cur,e1,hg,?_,r⟩⟩;rw[Below.heap_setCell w a u g (by subst e1;intro e;exact hne (by rw[←e];rfl))];exact hh
open Go.RowKit
def AppOut (w:World) (base:Nat) (e:TypeId) (size:Nat) (v:Value) (n:Nat) (xs:List Value) (fresh:Nat) (v':Value) (w':World):Prop:=
 w'.ownsRow base e size v' n xs∧w.grownBy w' v.ownBlock∧(v'.ownBlock=v.ownBlock∨v'.ownBlock=some fresh)
section
variable {P:Program}
theorem run_append_row {w:World} (base:Nat) (t e:TypeId) (i:TypeInfo) (z:Value) (bytes:Nat) (ht:P.underlying t=some (.slice e)) (hi:P.info? e=some i) (hz:i.zero=some z)
 (hsize:i.size=1) (hby:i.bytes=bytes) (hzs:z.cells.size=1) {v:Value} {n:Nat} {xs:List Value} (hown:w.ownsRow base e 1 v n xs)
 {k:IntKind} {a:Option Addr} {m c:Nat} {l:List Int} (hrow:Row k w a m c l) (h63:n+m≤maxLen) (hbytes:(n+m)*bytes≤140737488355328) (hbase:base≤w.heap.size) :
 ∃v' w',(Builtin.append_ #[t,t] t #[v,.slice a m c]).run P w=.ok v' w'∧AppOut w base e 1 v (n+m) (xs++l.map (Value.int k)) w.heap.size v' w':=by
 obtain⟨h1,h2,h3,hn,h4⟩:=hrow;cases a with
 | none=>
  have hc:=hn rfl;have hm:m=0:=by omega
  subst hc hm;obtain rfl:l=[]:=List.eq_nil_of_length_eq_zero h1;exact⟨v,w,run_append_owned_none w base t t e i 1 ht hi v n xs hown,by simpa using hown,World.grownBy.refl w _,.inl rfl⟩
 | some ad=>
  obtain⟨v',w',hr,h5,h6,_,h7⟩:=run_append_own_at (P:=P) w base t t e i z 1 bytes ht hi hz hsize hby hzs (by decide) v n xs hown ad m c (l.map (Value.int k)) (by simp[h1]) (by
   intro j u hj;simp only[List.getElem?_map,Option.map_eq_some_iff] at hj;obtain⟨y,hy,rfl⟩:=hj;have hjl:=(List.getElem?_eq_some_iff.1 hy).1
   rcases h4 with h4|⟨b,off,h5,h6,h7⟩
   ·omega
   ·cases h5
    have e:(⟨b,off,none⟩:Addr).add j=⟨b,off+j,none⟩:=by
     unfold Addr.add;split<;>simp_all
    rw[e,h7 j (by omega),hy];rfl) (fun u hu=>by obtain⟨y,_,rfl⟩:=List.mem_map.1 hu;rfl) h63 hbytes hbase
  exact⟨v',w',hr,h5,h6,h7⟩
theorem run_append_new {w:World} (base:Nat) (t e:TypeId) (i:TypeInfo) (z:Value) (size bytes:Nat) (ht:P.underlying t=some (.slice e)) (hi:P.info? e=some i) (hz:i.zero=some z)
 (hsize:i.size=size) (hby:i.bytes=bytes) (hzs:z.cells.size=size) (hsz:0<size) {v:Value} {n:Nat} {xs:List Value} (hown:w.ownsRow base e size v n xs)
 (cs:Array Value) (hcs:cs.size=size) (h1:∀u∈cs.toList,u.oneCell'=true) (h63:n+1≤maxLen) (hbytes:(n+1)*bytes≤140737488355328) (hbase:base≤w.heap.size) :
 ∃v' w',(Builtin.append_ #[t,t] t #[v,.slice (some ⟨w.heap.size,0,none⟩) 1 1]).run P (w.alloc (.cells cs e))=.ok v' w'∧AppOut w base e size v (n+1) (xs++cs.toList) (w.heap.size+1) v' w':=by
 have hb:Below w.heap.size w (w.alloc (.cells cs e)):=(Below.refl _ _).alloc (Nat.le_refl _) _;obtain⟨v',w',hr,h5,h6,_,h7⟩:=run_append_own_at (P:=P) (w.alloc (.cells cs e)) base t t e i z size bytes ht hi hz hsize hby hzs hsz v n xs (by
  refine⟨hown.1,hown.2.imp id fun⟨g,cap,cur,e1,hg,hh,r⟩=>⟨g,cap,cur,e1,hg,?_,r⟩⟩;rw[hb.block g (Array.getElem?_eq_some_iff.1 hh).1];exact hh) ⟨w.heap.size,0,none⟩ 1 1 cs.toList (by simp[hcs]) (by
  intro j u hj;have ea:(⟨w.heap.size,0,none⟩:Addr).add j=⟨w.heap.size,j,none⟩:=by unfold Addr.add;split<;>simp_all
  rw[ea];simp only[World.cell?,World.alloc_heap_new w (.cells cs e)];simpa using hj) h1 h63 hbytes (by simp;omega)
 refine⟨v',w',hr,h5,⟨by rw[h6.os];rfl,by rw[h6.tape];rfl,by rw[h6.output];rfl,Nat.le_trans (by simp) h6.size,fun k hk hne=>?_⟩,by simpa using h7⟩;rw[h6.block k (by simp;omega) hne];exact hb.block k hk
theorem run_append_text {w:World} (base:Nat) (t u e:TypeId) (i:TypeInfo) (ht:P.underlying t=some (.slice e)) (hu:P.underlying u=some .string) (hi:P.info? e=some i) (hz:i.zero=some (.int .u8 0))
 (hsize:i.size=1) (hby:i.bytes=1) {v:Value} {n:Nat} {xs:List Value} (hown:w.ownsRow base e 1 v n xs) (d:List UInt8) (h63:n+d.length≤140737488355328) (hbase:base≤w.heap.size) :
 ∃v' w',(Builtin.append_ #[t,u] t #[v,.string (strOf d)]).run P w=.ok v' w'∧w'.ownsRow base e 1 v' (n+d.length) (xs++(toI d).map (Value.int .u8))∧w.grownBy w' v.ownBlock:=by
 obtain⟨v',w',h1,h2,h3,_⟩:=Lib.run_append_own_string (P:=P) w base t u t e i ht hu hi hz hsize hby v n xs hown (strOf d) (by rw[strOf_size];unfold maxLen;omega) (by rw[strOf_size];omega) hbase;rw[strOf_size,strCells_strOf] at h2;exact⟨v',w',h1,h2,h3⟩
end
section
variable {P:Program} {w:World}
theorem wp_append_run {o:Oper} {a:Act} {K:Act→World→Prop} {Q:Exit→Act→World→Prop} (s x:Operand) (t u:TypeId)
 (ho:o.op=.call { callee:=.builtin .append,args := #[s,x],argTypes := #[t,u] }) {v y v':Value} {w':World} (hs:a.eval s=v) (hx:a.eval x=y)
 (hrun:(Builtin.append_ #[t,u] o.type #[v,y]).run P w=.ok v' w') (h:K (a.put o.dst v') w'):o.wp P a w K Q:=by
 unfold Oper.wp execOp;simp only[ho,resolve,invoke,builtin,Sem.run_bind,Sem.run_pure,Result.andThen_ok,List.map_toArray,List.map_cons,List.map_nil,hs,hx,hrun];exact h
theorem wpList_append_run {ops:Array Oper} {rest:List Oper} {o:Oper} {a:Act} {Q:Exit→Act→World→Prop} (hgd:o.guard=none) (s x:Operand) (t u:TypeId)
 (ho:o.op=.call { callee:=.builtin .append,args := #[s,x],argTypes := #[t,u] }) {v y v':Value} {w':World} (hs:a.eval s=v) (hx:a.eval x=y)
 (hrun:(Builtin.append_ #[t,u] o.type #[v,y]).run P w=.ok v' w') (h:wpList P ops Q rest (a.put o.dst v') w'):wpList P ops Q (o::rest) a w:=
 wpList_plain hgd fun _ hK=>wp_append_run s x t u ho hs hx hrun (hK _ _ h)
theorem step_append_run {ops:Array Oper} {o:Oper} {a:Act} {K:Act→World→Prop} {Q:Exit→Act→World→Prop} {E:Prop} (hgd:o.guard=none) (s x:Operand) (t u:TypeId)
 (ho:o.op=.call { callee:=.builtin .append,args := #[s,x],argTypes := #[t,u] }) {v y v':Value} {w':World} (hs:a.eval s=v) (hx:a.eval x=y)
 (hrun:(Builtin.append_ #[t,u] o.type #[v,y]).run P w=.ok v' w') (h:K (a.put o.dst v') w') :
 if Region.wanted o (yielded ops a.tmps)=true then Oper.wp P o a w K Q else E:=by
 have hw:Region.wanted o (yielded ops a.tmps)=true:=by simp[Region.wanted,hgd]
 rw[if_pos hw];exact wp_append_run s x t u ho hs hx hrun h
end
open Go.RowKit
theorem flat_len {α β:Type} (f:α→List β) (sz:Nat) (hf:∀y,(f y).length=sz):∀l:List α,(l.flatMap f).length=l.length*sz
 | []=>by simp
 | y::l=>by simp[List.flatMap_cons,flat_len f sz hf l,hf y,Nat.add_mul];omega
theorem flat_get {α β:Type} (f:α→List β) (sz:Nat) (hf:∀y,(f y).length=sz):∀(l:List α) (i:Nat) (y:α) (j:Nat) (v:β),l[i]? = some y→(f y)[j]? = some v→(l.flatMap f)[i*sz+j]? = some v
 | [],i,y,j,v,h,_=>by simp at h
 | x::l,0,y,j,v,h,hv=>by
  cases h;have hj:=(List.getElem?_eq_some_iff.1 hv).1;rw[List.flatMap_cons,Nat.zero_mul,Nat.zero_add,List.getElem?_append_left hj];exact hv
 | x::l,i+1,y,j,v,h,hv=>by
  have h':l[i]? = some y:=by simpa using h
  rw[List.flatMap_cons,List.getElem?_append_right (by rw[hf,Nat.add_mul];omega),hf,show(i+1)*sz+j-sz=i*sz+j by rw[Nat.add_mul];omega];exact flat_get f sz hf l i y j v h' hv
theorem TabR.of_own {α:Type} {sz:Nat} {R:List Value→α→Prop} (f:α→List Value) (hf:∀y,(f y).length=sz) (hR:∀y,R (f y) y) {w:World} {base:Nat} {e:TypeId} {v:Value} {l:List α} (h:w.ownsRow base e sz v l.length (l.flatMap f)) :
 ∃a cap,v=.slice a l.length cap∧TabR sz R w a l.length cap l:=by
 obtain⟨h1,h2⟩:=h
 rcases h2 with⟨rfl,h0⟩|⟨g,cap,cur,rfl,hb,hg,hn,hm,hc,ht⟩
 ·have:l.length=0:=h0
  rw[h0];exact⟨none,0,rfl,by omega,Nat.le_refl _,by unfold maxLen;omega,fun _=>rfl,.inl rfl⟩
 ·refine⟨_,cap,rfl,rfl,hn,hm,(fun h=>by cases h),.inr ⟨g,0,rfl,(Array.getElem?_eq_some_iff.1 hg).1,fun i y hy=>⟨f y,hf y,hR y,fun j v hv=>?_⟩⟩⟩
  have hi:=(List.getElem?_eq_some_iff.1 hy).1;have hj:j<sz:=by rw[←hf y];exact(List.getElem?_eq_some_iff.1 hv).1
  have hx:=flat_get f sz hf l i y j v hy hv;rw[←ht] at hx;have hlt:i*sz+j<l.length*sz:=by
   have:=Nat.mul_le_mul_right sz (show i+1≤l.length by omega);rw[Nat.add_mul] at this;omega
  rw[List.getElem?_take_of_lt hlt] at hx;simp only[World.cell?,hg,Nat.zero_add];rw[←Array.getElem?_toList];exact hx
open Go.RowKit
section
variable {P:Program}
theorem run_append_tab {α:Type} {w:World} (base:Nat) (t e:TypeId) (i:TypeInfo) (z:Value) (sz bytes:Nat) (ht:P.underlying t=some (.slice e)) (hi:P.info? e=some i) (hz:i.zero=some z)
 (hsize:i.size=sz) (hby:i.bytes=bytes) (hzs:z.cells.size=sz) (hsz:0<sz) {v:Value} {n:Nat} {xs:List Value} (hown:w.ownsRow base e sz v n xs)
 (R:List Value→α→Prop) (f:α→List Value) (hR:∀cs y,R cs y→cs=f y) (hf:∀y,(f y).length=sz) (h1:∀y,∀u∈f y,u.oneCell'=true)
 {a:Option Addr} {m c:Nat} {l:List α} (hrow:TabR sz R w a m c l) (h63:n+m≤maxLen) (hbytes:(n+m)*bytes≤140737488355328) (hbase:base≤w.heap.size) :
 ∃v' w',(Builtin.append_ #[t,t] t #[v,.slice a m c]).run P w=.ok v' w'∧AppOut w base e sz v (n+m) (xs++l.flatMap f) w.heap.size v' w':=by
 obtain⟨g1,g2,g3,hn,g4⟩:=hrow;cases a with
 | none=>
  have hc:=hn rfl;have hm:m=0:=by omega
  subst hc hm;obtain rfl:l=[]:=List.eq_nil_of_length_eq_zero g1;exact⟨v,w,run_append_owned_none w base t t e i sz ht hi v n xs hown,by simpa using hown,World.grownBy.refl w _,.inl rfl⟩
 | some ad=>
  have hlen:=flat_len f sz hf l;obtain⟨v',w',hr,h5,h6,_,h7⟩:=run_append_own_at (P:=P) w base t t e i z sz bytes ht hi hz hsize hby hzs hsz v n xs hown ad m c (l.flatMap f) (by rw[hlen,g1]) (by
   intro j u hj;have hjl:=(List.getElem?_eq_some_iff.1 hj).1;rw[hlen] at hjl
   rcases g4 with g4|⟨b,off,h5,h6,h7⟩
   ·rw[g1,g4] at hjl;omega
   ·cases h5
    have ea:(⟨b,off,none⟩:Addr).add j=⟨b,off+j,none⟩:=by
     unfold Addr.add;split<;>simp_all
    have hq:j / sz<l.length:=Nat.div_lt_of_lt_mul (by rw[Nat.mul_comm];exact hjl);obtain⟨y,hy⟩:∃y,l[j / sz]? = some y:=⟨_,List.getElem?_eq_getElem hq⟩
    obtain⟨cs,c1,c2,c3⟩:=h7 _ y hy;have hcs:=hR _ _ c2;subst hcs;have hm:j % sz<sz:=Nat.mod_lt _ hsz;obtain⟨u',hu'⟩:∃u',(f y)[j % sz]? = some u':=⟨_,List.getElem?_eq_getElem (by rw[hf];exact hm)⟩
    have hx:=flat_get f sz hf l _ y _ u' hy hu';have hdm:j / sz*sz+j % sz=j:=by rw[Nat.mul_comm];exact Nat.div_add_mod j sz
    rw[hdm,hj] at hx;cases hx;rw[ea];have:=c3 _ u hu'
    rwa [Nat.add_assoc,hdm] at this) (fun u hu=>by
     obtain⟨y,_,hy⟩:=List.mem_flatMap.1 hu;exact h1 y u hy) h63 hbytes hbase
  exact⟨v',w',hr,h5,h6,h7⟩
end
theorem own_put {w:World} {base:Nat} {e:TypeId} {size:Nat} {g n cap:Nat} {xs:List Value} (h:w.ownsRow base e size (.slice (some ⟨g,0,none⟩) n cap) n xs) (j:Nat) (u:Value) (_hj:j<n*size) :
 (w.setCell ⟨g,j,none⟩ u).ownsRow base e size (.slice (some ⟨g,0,none⟩) n cap) n (xs.set j u):=by
 obtain⟨h1,h2⟩:=h;refine⟨by rw[List.length_set];exact h1,.inr ?_⟩
 rcases h2 with⟨hv,_⟩|⟨g',cap',cur,hv,hb,hg,hn,hm,hc,ht⟩
 ·cases hv
 ·cases hv
  refine⟨g,cap,cur.setIfInBounds j u,rfl,hb,heap_setCell_at j u hg,hn,hm,by simpa using hc,?_⟩;rw[←ht,Array.toList_setIfInBounds,List.take_set]
end Go.Proofs.YtpghlmcoajaiiaaGreatDoor
