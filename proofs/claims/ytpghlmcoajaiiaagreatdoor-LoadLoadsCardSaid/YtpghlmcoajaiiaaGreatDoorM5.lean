/- Texts that other texts of this claim lean on, one behind the other. -/
import Derived.Test.YtpghlmcoajaiiaaGreatDoorM1
import Derived.Laws.BytesArg
import Derived.Laws.MakeOwn
import Derived.Laws.BitsAllLaws
import Derived.Lib.AppendStr
import Derived.Lib.BufferRead
import Derived.Test.YtpghlmcoajaiiaaGreatDoorM2
import Derived.Test.YtpghlmcoajaiiaaGreatDoorM3
import Derived.Test.YtpghlmcoajaiiaaGreatDoorM4
import Derived.Laws.CopyOwn
import Derived.Deep.Slices
import Derived.ProofKit
import Derived.ChangeOld
import Derived.Deep.RegionLaw
import Derived.Deep.RegionWith
set_option maxHeartbeats 20000000
set_option maxRecDepth 100000
namespace Go.Proofs.YtpghlmcoajaiiaaGreatDoor
open Go.RowKit
def toI (l:List UInt8):List Int:=l.map fun b=>(b.toNat:Int)
theorem toI_length (l:List UInt8):(toI l).length=l.length:=by simp[toI]
theorem toI_take (l:List UInt8) (k:Nat):(toI l).take k=toI (l.take k):=by simp[toI,List.map_take]
theorem toI_drop (l:List UInt8) (k:Nat):(toI l).drop k=toI (l.drop k):=by simp[toI,List.map_drop]
theorem toI_append (l m:List UInt8):toI l++toI m=toI (l++m):=by simp[toI]
theorem toI_get (l:List UInt8) (k:Nat):(toI l)[k]?.getD 0=((l[k]?.getD 0).toNat:Int):=by
 simp only[toI,List.getElem?_map];cases l[k]? <;> simp
def ofI (l:List Int):List UInt8:=l.map fun n=>UInt8.ofNat n.toNat
theorem toI_ofI (l:List Int) (h:∀n∈l,(Lit.int .u8 n).wf=true):toI (ofI l)=l:=by
 induction l with
 | nil=>rfl
 | cons x l ih=>
  have h1:=h x (by simp);have h2:=ih (fun n hn=>h n (by simp[hn]));simp[Lit.wf,IntKind.min,IntKind.max,IntKind.signed,IntKind.bits] at h1;simp only[toI,ofI,List.map_cons] at h2 ⊢;rw[h2]
  congr 1
  simp[UInt8.toNat_ofNat'];omega
def Bs (w:World) (a:Option Addr) (len cap:Nat) (l:List UInt8):Prop:=Row .u8 w a len cap (toI l)
theorem Bs.below {w w':World} {a:Option Addr} {len cap:Nat} {l:List UInt8} {B:Nat} (hB:w.heap.size≤B) (hb:Below B w w') (h:Bs w a len cap l):Bs w' a len cap l:=Row.below hB hb h
theorem Bs.drewN {w:World} {a:Option Addr} {len cap:Nat} {l:List UInt8} (h:Bs w a len cap l) (n:Nat):Bs (w.drewN n) a len cap l:=h
theorem Bs.take {w:World} {a:Option Addr} {len cap:Nat} {l:List UInt8} (j:Nat) (hj:j≤len) (h:Bs w a len cap l):Bs w a j cap (l.take j):=by
 have:=Row.take j hj h;rwa [toI_take] at this
theorem Bs.drop {w:World} {a:Option Addr} {len cap:Nat} {l:List UInt8} (j:Nat) (hj:j≤len) (h:Bs w a len cap l):Bs w (if cap=j then a else a.map (·.add (j*1))) (len-j) (cap-j) (l.drop j):=by
 have:=Row.drop j hj h;rwa [toI_drop] at this
theorem Bs.len {w:World} {a:Option Addr} {len cap:Nat} {l:List UInt8} (h:Bs w a len cap l):l.length=len:=by have:=h.1;rwa [toI_length] at this
theorem Bs.cap {w:World} {a:Option Addr} {len cap:Nat} {l:List UInt8} (h:Bs w a len cap l):len≤cap∧cap≤maxLen:=⟨h.2.1,h.2.2.1⟩
theorem Bs.cell {w:World} {a:Option Addr} {len cap:Nat} {l:List UInt8} (h:Bs w a len cap l) {k:Nat} (hk:k<len) :
 ∃b off,a=some ⟨b,off,none⟩∧b<w.heap.size∧∀i,i<len→w.cell? ⟨b,off+i,none⟩=some (.int .u8 ((l[i]?.getD 0).toNat:Int)):=by
 rcases h.2.2.2.2 with h0|⟨b,off,e,hb,hc⟩
 ·omega
 ·exact⟨b,off,e,hb,fun i hi=>by rw[hc i hi,toI_get]⟩
theorem Bs.of_own {w:World} {base:Nat} {e:TypeId} {v:Value} {n:Nat} {l:List UInt8} (h:w.ownsRow base e 1 v n ((toI l).map (Value.int .u8))) :
 ∃a cap,v=.slice a n cap∧Bs w a n cap l:=Row.of_own h
theorem Row.grown {k:IntKind} {w w':World} {a:Option Addr} {len cap:Nat} {l:List Int} {row:Option Nat} (hg:w.grownBy w' row) (hne:∀b off,len≠0→a=some ⟨b,off,none⟩→row≠some b) (h:Row k w a len cap l):Row k w' a len cap l:=by
 obtain⟨h1,h2,h3,hn,h4⟩:=h;refine⟨h1,h2,h3,hn,?_⟩
 rcases h4 with h4|⟨b,off,h5,h6,h7⟩
 ·exact .inl h4
 ·by_cases h0:len=0
  ·exact .inl h0
  ·refine .inr ⟨b,off,h5,by have:=hg.size;omega,fun i hi=>?_⟩
   rw[←h7 i hi];exact World.cell?_of_block (hg.block b h6 (fun e=>hne b off h0 h5 e.symm))
theorem Bs.grown {w w':World} {a:Option Addr} {len cap:Nat} {l:List UInt8} {row:Option Nat} (hg:w.grownBy w' row) (hne:∀b off,len≠0→a=some ⟨b,off,none⟩→row≠some b) (h:Bs w a len cap l):Bs w' a len cap l:=Row.grown hg hne h
def strOf (l:List UInt8):ByteArray:=⟨l.toArray⟩
theorem strOf_list (l:List UInt8):(strOf l).data.toList=l:=by simp[strOf]
theorem strOf_size (l:List UInt8):(strOf l).size=l.length:=by simp[strOf,ByteArray.size]
theorem strOf_extract (l:List UInt8) (i j:Nat):(strOf l).extract i j=strOf ((l.drop i).take (j-i)):=by
 apply ByteArray.ext;simp[strOf,ByteArray.data_extract,List.extract_eq_take_drop]
theorem strOf_append (l m:List UInt8):strOf l++strOf m=strOf (l++m):=by
 apply ByteArray.ext;simp[strOf,ByteArray.data_append]
theorem strOf_toList (l:List UInt8):(strOf l).toList=l:=by
 have h:=ByteArray.toList_loop_eq (strOf l) (strOf l).size 0 [] (by omega) (by omega);show ByteArray.toList.loop (strOf l) 0 []=l;rw[h,strOf_list];simp
theorem strOf_get (l:List UInt8) (k:Nat) (h:k<l.length):(strOf l)[k]'(by rw[strOf_size];exact h)=l[k]?.getD 0:=by
 simp[strOf,ByteArray.getElem_eq_getElem_data,h]
theorem conv_string {P:Program} {w:World} {src e dst:TypeId} (hs:P.underlying src=some (.slice e)) (he:P.underlying e=some (.int .u8)) (hd:P.underlying dst=some .string)
 {a:Option Addr} {len cap:Nat} {l:List UInt8} (h:Bs w a len cap l):(convert src dst (.slice a len cap)).run P w=.ok (.string (strOf l)) w:=by
 have hlen:=h.len;cases a with
 | none=>
  have hc:=h.2.2.2.1 rfl;have:len=0:=by have:=h.2.1;omega
  subst hc this;obtain rfl:l=[]:=List.eq_nil_of_length_eq_zero hlen;exact Lib.run_convert_nil_bytes w src dst e 0 hs he hd
 | some x=>
  subst hlen;refine run_convert_bytes_back w src dst e x cap l hs he hd fun j hj=>?_
  obtain⟨b,off,h5,_,h7⟩:=h.cell hj;cases h5;have e:(⟨b,off,none⟩:Addr).add j=⟨b,off+j,none⟩:=by unfold Addr.add;split<;>simp_all
  rw[e,h7 j hj];simp[hj]
theorem made_list (v:Value) (n:Nat):(madeCells #[v] n).toList=List.replicate n v:=by
 simp only[madeCells];apply List.ext_getElem
 ·simp
 ·intro i h1 h2
  simp[Nat.mod_one]
theorem strCells_strOf (l:List UInt8):Lib.strCells (strOf l)=(toI l).map (Value.int .u8):=by
 simp[Lib.strCells,strOf,toI]
def RetStr (w:World) (l:List UInt8) (e:Ending) (w':World):Prop:=e=.returned (.string (strOf l))∧Below w.heap.size w w'
theorem conv_one {P:Program} {W:World} {src e dst t:TypeId} (hs:P.underlying src=some (.slice e)) (he:P.underlying e=some (.int .u8)) (hd:P.underlying dst=some .string) (b:UInt8) :
 (convert src dst (.slice (some ⟨W.heap.size,0,none⟩) 1 1)).run P (W.alloc (.cells #[.int .u8 (b.toNat:Int)] t))=.ok (.string (strOf [b])) (W.alloc (.cells #[.int .u8 (b.toNat:Int)] t)):=
 conv_string hs he hd (show Bs _ _ _ _ [b] from Row.made .u8 W t [(b.toNat:Int)] rfl (by unfold maxLen;simp))
def OwnBytes (t:TypeId) (w:World) (l:List UInt8) (e:Ending) (w':World):Prop:=
 ∃v,e=.returned v∧w'.ownsRow w.heap.size t 1 v l.length ((toI l).map (Value.int .u8))∧Below w.heap.size w w'
theorem grown_setCell (w:World) (a:Addr) (u:Value):w.grownBy (w.setCell a u) (some a.block):=
 ⟨rfl,rfl,rfl,by simp[World.setCell],fun k _ hne=>Below.heap_setCell w a u k (fun e=>hne (by rw[e]))⟩
theorem grown_trans {a b c:World} {row:Option Nat} (h:a.grownBy b row) (k:b.grownBy c row):a.grownBy c row:=
 ⟨by rw[k.os,h.os],by rw[k.tape,h.tape],by rw[k.output,h.output],Nat.le_trans h.size k.size,fun i hi hne=>by rw[k.block i (Nat.lt_of_lt_of_le hi h.size) hne,h.block i hi hne]⟩
theorem grown_below {a b:World} (h:Below a.heap.size a b) (row:Option Nat):a.grownBy b row:=⟨h.os,h.tape,h.output,h.size,fun k hk _=>h.block k hk⟩
theorem heap_setCell_at {w:World} {g:Nat} {cur:Array Value} {e:TypeId} (j:Nat) (u:Value) (hg:w.heap[g]? = some (.cells cur e (0,0))) :
 (w.setCell ⟨g,j,none⟩ u).heap[g]? = some (.cells (cur.setIfInBounds j u) e (0,0)):=heap_setCell_same w g j cur e u hg
theorem or256 (x c:Nat) (hx:x<72057594037927936) (hc:c<256):bits .or .u64 ((x:Int)*256) (c:Int)=((x*256+c:Nat):Int):=by
 have h:=u64_or_nat (x*256) c (by omega) (by omega);have e:x*256 ||| c=x*256+c:=by
  have:=Nat.shiftLeft_add_eq_or_of_lt (i:=8) (b:=c) (by omega) x;rw[Nat.shiftLeft_eq] at this;exact this.symm
 rw[e] at h;rw[←h];congr 1
theorem own_lt {w:World} {base:Nat} {e:TypeId} {size:Nat} {v:Value} {n:Nat} {xs:List Value} (h:w.ownsRow base e size v n xs):∀k,v.ownBlock=some k→k<w.heap.size:=by
 intro k hk
 rcases h.2 with⟨rfl,rfl⟩|⟨g,cap,cur,rfl,_,hg,_⟩
 ·cases hk
 ·cases hk;exact(Array.getElem?_eq_some_iff.1 hg).1
theorem grown_refl (w:World) (row:Option Nat):w.grownBy w row:=⟨rfl,rfl,rfl,Nat.le_refl _,fun _ _ _=>rfl⟩
theorem Bs.own {w:World} {base:Nat} {e:TypeId} {a:Option Addr} {n cap:Nat} {l:List UInt8} (h:w.ownsRow base e 1 (.slice a n cap) n ((toI l).map (Value.int .u8))):Bs w a n cap l:=by
 obtain⟨a',cap',e1,e2⟩:=Bs.of_own h;cases e1;exact e2
theorem own_slice {w:World} {base:Nat} {e:TypeId} {size:Nat} {v:Value} {n:Nat} {xs:List Value} (h:w.ownsRow base e size v n xs):∃a cap,v=.slice a n cap∧n≤cap∧cap≤maxLen∧(0<n→∃g,a=some ⟨g,0,none⟩):=by
 rcases h.2 with⟨rfl,rfl⟩|⟨g,cap,cur,rfl,_,_,h1,h2,_⟩
 ·exact⟨none,0,rfl,Nat.le_refl _,by unfold maxLen;omega,fun h=>by omega⟩
 ·exact⟨_,cap,rfl,h1,h2,fun _=>⟨g,rfl⟩⟩
def beBytes (x:Nat):Nat→List UInt8
 | 0=>[]
 | n+1=>beBytes (x / 256) n++[UInt8.ofNat x]
theorem beBytes_length (x n:Nat):(beBytes x n).length=n:=by
 induction n generalizing x with
 | zero=>rfl
 | succ n ih=>simp[beBytes,ih]
def beVal (l:List UInt8):Nat:=l.foldl (fun x b=>x*256+b.toNat) 0
theorem beVal_nil:beVal []=0:=rfl
theorem beVal_snoc (l:List UInt8) (b:UInt8):beVal (l++[b])=beVal l*256+b.toNat:=by simp[beVal]
theorem beVal_lt (l:List UInt8):beVal l<256 ^ l.length:=by
 have key:∀(l:List UInt8) (a:Nat),l.foldl (fun x b=>x*256+b.toNat) a<(a+1)*256 ^ l.length:=by
  intro l
  induction l with
  | nil=>intro a;simp
  | cons b l ih=>
   intro a;have h:=ih (a*256+b.toNat);have hb:=b.toNat_lt;simp only[List.foldl_cons,List.length_cons,Nat.pow_succ]
   calc _<(a*256+b.toNat+1)*256 ^ l.length:=h
    _≤((a+1)*256)*256 ^ l.length:=Nat.mul_le_mul_right _ (by omega)
    _=(a+1)*(256 ^ l.length*256):=by rw[Nat.mul_assoc,Nat.mul_comm 256]
 have h:=key l 0;simp at h;exact h
theorem beBytes_cons (x n:Nat):beBytes x (n+1)=UInt8.ofNat (x / 256 ^ n)::beBytes x n:=by
 induction n generalizing x with
 | zero=>simp[beBytes]
 | succ n ih=>
  rw[beBytes,ih (x / 256)];simp only[List.cons_append];rw[Nat.div_div_eq_div_mul,Nat.pow_succ,Nat.mul_comm 256]
  rfl
theorem be_set (x n k:Nat) (hk:k<n):(List.replicate (n-k) 0++beBytes x k).set (n-1-k) (UInt8.ofNat (x / 256 ^ k))=List.replicate (n-(k+1)) 0++beBytes x (k+1):=by
 obtain⟨m,rfl⟩:∃m,n=k+1+m:=⟨n-k-1,by omega⟩
 have e1:k+1+m-k=m+1:=by omega
 have e2:k+1+m-1-k=m:=by omega
 have e3:k+1+m-(k+1)=m:=by omega
 rw[e1,e2,e3,beBytes_cons,List.replicate_succ',List.append_assoc,List.set_append_right _ _ (by simp),List.length_replicate,Nat.sub_self]
 rfl
theorem be_at (x n k:Nat) (hk:k<n):(List.replicate (n-k) (0:UInt8)++beBytes x k)[n-1-k]? = some 0:=by
 rw[List.getElem?_append_left (by simp;omega),List.getElem?_replicate,if_pos (by omega)]
theorem be_byte (x k:Nat):((x:Int) / 2 ^ (8*k) % 256)=((UInt8.ofNat (x / 256 ^ k)).toNat:Int):=by
 have e:(256:Nat) ^ k=2 ^ (8*k):=by rw[Nat.pow_mul]
 rw[UInt8.toNat_ofNat',e,Int.natCast_emod,Int.natCast_ediv,Int.natCast_pow]
 rfl
def numF (x:Int) (size:Int):List UInt8:=if size<1∨8<size then [] else beBytes x.toNat size.toNat
def textF (l:List UInt8):List UInt8:=UInt8.ofNat (l.take 255).length::l.take 255
structure TSt where
 l:List UInt8
 e:Int
deriving DecidableEq
def takeF (s:TSt) (n:Nat):List UInt8×TSt:=
 if s.e≠0 then ([],s) else if s.l.length<n then ([],{ s with e:=10 }) else (s.l.take n,{ s with l:=s.l.drop n })
def tNum (s:TSt) (size:Int):Nat×TSt:=
 if s.e=0∧(size<1∨8<size) then (0,{ s with e:=1 }) else (beVal (takeF s size.toNat).1,(takeF s size.toNat).2)
def tText (s:TSt):List UInt8×TSt:=takeF (tNum s 1).2 (tNum s 1).1
def tRest (s:TSt):List UInt8×TSt:=takeF s s.l.length
def tDone (s:TSt):Int:=if s.e≠0∨s.l.length=0 then s.e else 11
open Go.RowKit
theorem info_u8:(Tryz.prog.info? 5).map (fun i=>(i.zero,i.size,i.bytes))=some (some (.int .u8 0),1,1):=by kernel_rfl
theorem num_bad (x size:Int) (w:World) (h:size<1∨8<size) :
 Calls Tryz.prog 64 #[.int .u64 x,.int .i64 size] w fun e w'=>e=.returned (.slice none 0 0)∧w=w':=by
 rcases h with h|h
 ·go_enter Tryz.func64,Tryz.ntmps64
  exact q72c811
 ·have h':¬size<1:=by omega
  go_enter Tryz.func64,Tryz.ntmps64;exact q72c811
theorem num_ok (x:Nat) (n:Nat) (w:World) (_hx:x<18446744073709551616) (h1:1≤n) (h8:n≤8) :
 Calls Tryz.prog 64 #[.int .u64 x,.int .i64 n] w (OwnBytes 5 w (beBytes x n)):=by
 obtain⟨i0,hi,hz0,hz1,hz2⟩:=info_parts info_u8;go_enter Tryz.func64,Tryz.ntmps64
 go_wp2_with (at_make;refine wpList_make_full _ rfl _ _ 42 rfl w.heap.size 5 i0 _ 1 Tryz.underlying42 hi hz0 hz1 .i64 .i64 _ _ n rfl rfl rfl rfl (by rw[hz2];omega) (by unfold maxLen;omega) (Nat.le_refl _) ?_)
 intro w1 hown hg;have hB:=(Below.refl w.heap.size w).grown hg (Nat.le_refl _) (fun k e=>by cases e);clear hg;have hown':w1.ownsRow w.heap.size 5 1 (.slice (some ⟨w.heap.size,0,none⟩) n n) n ((toI (List.replicate (n-0) 0++beBytes x 0)).map (Value.int .u8)):=by
  simp only[made_list] at hown;simpa[beBytes,toI] using hown
 clear hown
 go_wp2
 go_loopw [17] (fun i wr=>∃k:Nat,k≤n∧i=.int .i64 k∧wr.ownsRow w.heap.size 5 1 (.slice (some ⟨w.heap.size,0,none⟩) n n) n ((toI (List.replicate (n-k) 0++beBytes x k)).map (Value.int .u8))∧Below w.heap.size w wr) (fun i _=>n-(intOf i).toNat)
 case atStart=>exact⟨0,Nat.zero_le _,rfl,hown',hB⟩
 case round=>
  obtain⟨k,hk,rfl,hr,hb⟩:=hrel
  by_cases hlt:k<n
  ·have hc:=hr.cellAt (n-1-k) (by omega)
   have hf:=hr.frozenAt (n-1-k);have hst:=hr.stored (n-1-k) (.int .u8 ((x:Int) / 2 ^ (8*k) % 256));have hv:=congrArg (Value.int .u8) (be_byte x k);have hlist:((toI (List.replicate (n-k) 0++beBytes x k)).map (Value.int .u8)).set (n-1-k) (.int .u8 ((x:Int) / 2 ^ (8*k) % 256))=(toI (List.replicate (n-(k+1)) 0++beBytes x (k+1))).map (Value.int .u8):=by
    rw[hv,←be_set x n k hlt];simp only[toI,List.map_set]
   rw[hlist] at hst;have hst:=hst.1;clear hlist hv;rw[List.getElem?_map,toI,List.getElem?_map,be_at x n k hlt] at hc;have hc':wr.cell? ⟨w.heap.size,n-1-k,none⟩=some (.int .u8 0):=hc;clear hc;have HS:=Hd hst;clear hst
   go_wp2
   go_roundw
   case rel=>exact⟨k+1,by omega,by go_num,HS.out,hb.setCell (Nat.le_refl _) _⟩
   case measure=>simp[intOf];omega
  ·obtain rfl:k=n:=by omega
   have hl:=Hd (beBytes_length x k);have hr':wr.ownsRow w.heap.size 5 1 (.slice (some ⟨w.heap.size,0,none⟩) k k) (beBytes x k).length ((toI (beBytes x k)).map (Value.int .u8)):=by
    rw[hl.out];simpa using hr
   go_wp2
   go_ret;exact⟨_,rfl,hr',hb⟩
theorem num_any (x size:Int) (w:World) (hx:0≤x∧x<18446744073709551616) :
 Calls Tryz.prog 64 #[.int .u64 x,.int .i64 size] w (OwnBytes 5 w (numF x size)):=by
 by_cases h:size<1∨8<size
 ·refine(num_bad x size w h).mono ?_
  rintro e w' ⟨rfl,rfl⟩;rw[numF,if_pos h];exact⟨_,rfl,⟨rfl,.inl ⟨rfl,rfl⟩⟩,Below.refl _ _⟩
 ·rw[numF,if_neg h]
  obtain⟨y,rfl⟩:=Int.eq_ofNat_of_zero_le hx.1;obtain⟨n,rfl⟩:=Int.eq_ofNat_of_zero_le (show 0≤size by omega);exact num_ok y n w (by omega) (by omega) (by omega)
theorem refNum_bad (x size:Int) (w:World) (h:size<1∨8<size) :
 Calls Tryz.prog 67 #[.int .u64 x,.int .i64 size] w fun e w'=>e=.returned (.string (strOf []))∧w=w':=by
 rcases h with h|h
 ·go_enter Tryz.func67,Tryz.ntmps67
  exact q72c811
 ·have h':¬size<1:=by omega
  go_enter Tryz.func67,Tryz.ntmps67;exact q72c811
theorem refNum_ok (x:Nat) (n:Nat) (w:World) (hx:x<18446744073709551616) (h1:1≤n) (h8:n≤8) :
 Calls Tryz.prog 67 #[.int .u64 x,.int .i64 n] w (RetStr w (beBytes x n)):=by
 go_enter Tryz.func67,Tryz.ntmps67
 go_wp2
 go_loopw [0,5,6] (fun xx s i wr=>∃k:Nat,k≤n∧i=.int .i64 k∧xx=.int .u64 ((x / 256 ^ k:Nat):Int)∧s=.string (strOf (beBytes x k))∧Below w.heap.size w wr) (fun _ _ i _=>n-(intOf i).toNat)
 case atStart=>exact⟨0,Nat.zero_le _,rfl,by simp,rfl,Below.refl _ _⟩
 case round=>
  obtain⟨k,hk,rfl,rfl,rfl,hb⟩:=hrel
  by_cases hlt:k<n
  ·have hdiv:=Hd (show x / 256 ^ (k+1)=x / 256 ^ k / 256 by rw[Nat.pow_succ,Nat.div_div_eq_div_mul])
   have hle:x / 256 ^ k≤x:=Nat.div_le_self _ _;have hcons:=Hd (beBytes_cons x k);generalize x / 256 ^ k=y at *;have hby:((y:Int) % 256)=((UInt8.ofNat y).toNat:Int):=by rw[UInt8.toNat_ofNat'];simp
   have hcv:=conv_one (W:=wr) (t:=5) Tryz.underlying42 Tryz.underlying5 Tryz.underlying9 (UInt8.ofNat y);rw[←hby] at hcv;have HB:=Hd hby
   clear hby
   have hap:=strOf_append [UInt8.ofNat y] (beBytes x k);have hsz:(strOf [UInt8.ofNat y]).size+(strOf (beBytes x k)).size≤9223372036854775807:=by
    rw[strOf_size,strOf_size,beBytes_length];simp;omega
   go_wp2
   go_roundw
   case rel=>exact⟨k+1,by omega,by go_num,by rw[hdiv.out];go_num,by rw[hcons.out],hb.alloc hb.size _⟩
   case measure=>simp[intOf];omega
  ·obtain rfl:k=n:=by omega
   go_wp2
   go_ret;exact⟨rfl,hb⟩
theorem refNum_any (x size:Int) (w:World) (hx:0≤x∧x<18446744073709551616) :
 Calls Tryz.prog 67 #[.int .u64 x,.int .i64 size] w (RetStr w (numF x size)):=by
 by_cases h:size<1∨8<size
 ·refine(refNum_bad x size w h).mono ?_
  rintro e w' ⟨rfl,rfl⟩;rw[numF,if_pos h];exact⟨rfl,Below.refl _ _⟩
 ·rw[numF,if_neg h]
  obtain⟨y,rfl⟩:=Int.eq_ofNat_of_zero_le hx.1;obtain⟨n,rfl⟩:=Int.eq_ofNat_of_zero_le (show 0≤size by omega);exact refNum_ok y n w (by omega) (by omega) (by omega)
theorem textF_eq (l:List UInt8):textF l=[UInt8.ofNat (l.take 255).length]++l.take 255:=rfl
theorem numF_one (n:Nat) (_hn:n≤255):numF (n:Int) 1=[UInt8.ofNat n]:=by
 rw[numF,if_neg (by omega)];simp[beBytes]
theorem refText_any (l:List UInt8) (w:World) (hl:l.length≤9223372036854775807) :
 Calls Tryz.prog 68 #[.string (strOf l)] w (RetStr w (textF l)):=by
 have hsz:=strOf_size l;have hx:=strOf_extract l 0 255;rw[List.drop_zero,Nat.sub_zero] at hx;have ht:(l.take 255).length≤255:=by simp;omega
 have hT:=textF_eq l;have hall:l.length≤255→l.take 255=l:=fun h=>List.take_of_length_le h
 generalize l.take 255=t at *;have hN:=Hd (numF_one t.length ht);have HT:=Hd hT;have HALL:=Hd hall;clear hT hall;have hap:=strOf_append [UInt8.ofNat t.length] t;have hlen:=strOf_size t;have hbnd:(strOf [UInt8.ofNat t.length]).size+(strOf t).size≤9223372036854775807:=by
  rw[strOf_size,strOf_size];simp;omega
 by_cases h255:255<l.length
 ·clear HALL
  exact q6e5b4c
 ·obtain rfl:=HALL.out (by omega)
  exact q6e5b4c
theorem text_any (l:List UInt8) (w:World) (hl:l.length≤9223372036854775807) :
 Calls Tryz.prog 65 #[.string (strOf l)] w (OwnBytes 5 w (textF l)):=by
 obtain⟨i0,hi,hz0,hz1,hz2⟩:=info_parts info_u8;have hsz:=strOf_size l;have hx:=strOf_extract l 0 (min l.length 255);have htk:(l.drop 0).take (min l.length 255-0)=l.take 255:=by
  rw[List.drop_zero,Nat.sub_zero]
  by_cases h:l.length≤255
  ·rw[Nat.min_eq_left h,List.take_length,List.take_of_length_le h]
  ·rw[Nat.min_eq_right (by omega)]
 rw[htk] at hx;clear htk;have ht:(l.take 255).length≤255:=by simp;omega
 have HT:=Hd (textF_eq l);generalize l.take 255=t at *;have hlen:=strOf_size t;have hmin:min l.length 255=255∨min l.length 255=l.length:=by omega
 have hcase:(255<l.length∧min l.length 255=255)∨(¬255<l.length∧min l.length 255=l.length):=by omega
 clear hmin
 rcases hcase with⟨h255,e⟩|⟨h255,e⟩
 all_goals
  rw[e] at hx;clear e;go_enter Tryz.func65,Tryz.ntmps65
  go_wp2_with (at_builtin;refine Lib.wpList_append_own_string _ rfl _ _ 42 9 rfl w.heap.size 5 i0 Tryz.underlying42 Tryz.underlying9 hi hz0 hz1 hz2 _ 1 [.int .u8 (t.length:Int)] rfl (own_made .u8 w 5 [(t.length:Int)] rfl (Nat.le_refl _) (by unfold maxLen;simp)) (strOf t) rfl (by rw[hlen];unfold maxLen;omega) (by rw[hlen];omega) (by simp) ?_)
  intro v2 w2 hown hg _;have hB:=((Below.refl w.heap.size w).alloc (Nat.le_refl _) (.cells #[.int .u8 (t.length:Int)] 5)).grown hg (by simp) (fun k e=>by cases e;exact Nat.le_refl _);clear hg;have hown':w2.ownsRow w.heap.size 5 1 v2 (textF l).length ((toI (textF l)).map (Value.int .u8)):=by
   rw[HT.out];have e:((UInt8.ofNat t.length).toNat:Int)=(t.length:Int):=by rw[UInt8.toNat_ofNat'];omega
   have e2:([UInt8.ofNat t.length]++t).length=1+t.length:=by simp;omega
   rw[strCells_strOf] at hown;rw[e2,←toI_append,List.map_append];have e3:toI [UInt8.ofNat t.length]=[(t.length:Int)]:=by simp only[toI,List.map_cons,List.map_nil,e]
   rw[e3];exact hown
  clear hown
  go_wp2
  go_ret;exact⟨_,rfl,hown',hB⟩
def stepB (x:Nat):Nat:=if x % 2=1 then (x / 2) ^^^ 3988292384 else x / 2
def steps:Nat→Nat→Nat
 | 0,x=>x
 | n+1,x=>steps n (stepB x)
theorem steps_add (m n x:Nat):steps (m+n) x=steps n (steps m x):=by
 induction m generalizing x with
 | zero=>simp[steps]
 | succ m ih=>rw[show m+1+n=(m+n)+1 by omega];simp only[steps];exact ih _
theorem steps_succ (n x:Nat):steps (n+1) x=stepB (steps n x):=by
 rw[steps_add n 1];rfl
def stepC (x:Nat) (b:UInt8):Nat:=steps 8 (x ^^^ b.toNat)
def crcX (x:Nat) (l:List UInt8):Nat:=l.foldl stepC x
def crcOn (sum:Nat) (l:List UInt8):Nat:=4294967295-crcX (4294967295-sum) l
def crcOf (l:List UInt8):Nat:=crcOn 0 l
theorem xor_lt {a b:Nat} (ha:a<4294967296) (hb:b<4294967296):a ^^^ b<4294967296:=Nat.xor_lt_two_pow (n:=32) ha hb
theorem stepB_lt {x:Nat} (h:x<4294967296):stepB x<4294967296:=by
 unfold stepB;split
 ·exact xor_lt (by omega) (by omega)
 ·omega
theorem steps_lt (n:Nat) {x:Nat} (h:x<4294967296):steps n x<4294967296:=by
 induction n generalizing x with
 | zero=>exact h
 | succ n ih=>exact ih (stepB_lt h)
theorem stepC_lt {x:Nat} (h:x<4294967296) (b:UInt8):stepC x b<4294967296:=steps_lt 8 (xor_lt h (by have:=b.toNat_lt;omega))
theorem crcX_lt (l:List UInt8) {x:Nat} (h:x<4294967296):crcX x l<4294967296:=by
 induction l generalizing x with
 | nil=>exact h
 | cons b l ih=>exact ih (stepC_lt h b)
theorem crcOn_lt (sum:Nat) (l:List UInt8):crcOn sum l<4294967296:=by unfold crcOn;omega
theorem crcX_snoc (x:Nat) (l:List UInt8) (b:UInt8):crcX x (l++[b])=stepC (crcX x l) b:=by simp[crcX]
def half:List Nat:=[0,498536548,997073096,651767980,1994146192,1802195444,1303535960,1342533948,3988292384,4027552580,3604390888,3412177804,2607071920,2262029012,2685067896,3183342108]
theorem half_eq (k:Nat) (h:k<16):half[k]? = some (steps 4 k):=by
 have:∀k:Fin 16,half[k.val]? = some (steps 4 k.val):=by decide
 exact this ⟨k,h⟩
theorem stepB_xor (a b:Nat) (ha:a % 2=0):stepB (a ^^^ b)=a / 2 ^^^ stepB b:=by
 have hp:(a ^^^ b) % 2=b % 2:=by
  have:=Nat.xor_mod_two_pow (a:=a) (b:=b) (n:=1);simp only[Nat.pow_one] at this;rw[this,ha,Nat.zero_xor]
  try omega
 have hd:(a ^^^ b) / 2=a / 2 ^^^ b / 2:=by
  have:=Nat.shiftRight_xor_distrib (a:=a) (b:=b) (i:=1);simpa[Nat.shiftRight_eq_div_pow] using this
 unfold stepB;rw[hp,hd]
 by_cases hb:b % 2=1
 ·rw[if_pos hb,if_pos hb,Nat.xor_assoc]
 ·rw[if_neg hb,if_neg hb]
theorem steps_xor (n a b:Nat) (ha:a % 2 ^ n=0):steps n (a ^^^ b)=a / 2 ^ n ^^^ steps n b:=by
 induction n generalizing a b with
 | zero=>simp[steps]
 | succ n ih=>
  have h2:a % 2=0:=by
   have:2 ∣ a:=Nat.dvd_trans (by rw[Nat.pow_succ];exact Nat.dvd_mul_left 2 _) (Nat.dvd_of_mod_eq_zero ha);omega
  have h3:a / 2 % 2 ^ n=0:=by
   have hd:=Nat.dvd_of_mod_eq_zero ha;rw[Nat.pow_succ] at hd;obtain⟨q,rfl⟩:=hd;rw[Nat.mul_comm (2 ^ n) 2,Nat.mul_assoc,Nat.mul_div_cancel_left _ (by decide),Nat.mul_mod_right]
  simp only[steps];rw[stepB_xor a b h2,ih (a / 2) (stepB b) h3,Nat.div_div_eq_div_mul,Nat.pow_succ,Nat.mul_comm 2]
theorem steps_four (x:Nat):steps 4 x=x / 16 ^^^ (half[x % 16]?.getD 0):=by
 have e:x=16*(x / 16) ^^^ x % 16:=by
  have h1:16*(x / 16) ^^^ x % 16=16*(x / 16)+x % 16:=by
   have hb:x % 16<2 ^ 4:=by omega
   apply Nat.eq_of_testBit_eq;intro j;have e1:=Nat.testBit_two_pow_mul_add (x / 16) hb j;have e2:(2 ^ 4*(x / 16)).testBit j=(decide (j≥4) && (x / 16).testBit (j-4)):=Nat.testBit_two_pow_mul ..;rw[Nat.testBit_xor];show((2 ^ 4*(x / 16)).testBit j ^^ (x % 16).testBit j)=(2 ^ 4*(x / 16)+x % 16).testBit j;rw[e1,e2]
   by_cases hj:j<4
   ·have h4:¬j≥4:=by omega
    rw[if_pos hj];simp[h4]
   ·have h0:(x % 16).testBit j=false:=Nat.testBit_lt_two_pow (Nat.lt_of_lt_of_le hb (Nat.pow_le_pow_right (by decide) (by omega)))
    have h4:j≥4:=by omega
    rw[if_neg hj,h0];simp[h4]
  rw[h1];omega
 have h2:=steps_xor 4 (16*(x / 16)) (x % 16) (by omega);rw[←e] at h2;rw[h2,half_eq (x % 16) (by omega)];simp
theorem not32 (s:Nat) (h:s<4294967296):4294967295 ^^^ s=4294967295-s:=by
 apply Nat.eq_of_testBit_eq;intro i;have e:=Nat.testBit_two_pow_sub_succ (n:=32) h i;have e1:2 ^ 32-(s+1)=4294967295-s:=by omega
 have e2:=Nat.testBit_two_pow_sub_one 32 i;rw[e1] at e;rw[Nat.testBit_xor,e];show((2 ^ 32-1).testBit i ^^ s.testBit i)=_;rw[e2]
 by_cases hi:i<32
 ·simp[hi]
 ·have:s.testBit i=false:=Nat.testBit_lt_two_pow (Nat.lt_of_lt_of_le h (show 2 ^ 32≤2 ^ i from Nat.pow_le_pow_right (by decide) (by omega)))
  simp[hi,this]
open Go.RowKit
def Half (w:World):Prop:=0<w.heap.size∧∀i,i<16→w.cell? ⟨0,i,none⟩=some (.int .u32 ((half[i]?.getD 0:Nat):Int))
theorem Half.below {w w':World} {B:Nat} (hB:w.heap.size≤B) (hb:Below B w w') (h:Half w):Half w':=
 ⟨Nat.lt_of_lt_of_le h.1 hb.size,fun i hi=>(hb.cell (p:=⟨0,i,none⟩) (Nat.lt_of_lt_of_le h.1 hB)).trans (h.2 i hi)⟩
theorem Half.grown {w w':World} {t:Nat} (h:Half w) (hg:w.grownBy w' (some t)) (hne:t≠0):Half w':=
 ⟨Nat.lt_of_lt_of_le h.1 hg.size,fun i hi=>(World.cell?_of_block (hg.block 0 h.1 (fun e=>hne (by cases e;rfl)))).trans (h.2 i hi)⟩
theorem max32:IntKind.u32.max=((4294967295:Nat):Int):=by decide
theorem not_u32 (s:Nat) (h:s<4294967296):bits .xor .u32 IntKind.u32.max (s:Int)=((4294967295-s:Nat):Int):=by
 rw[max32,u32_xor_nat 4294967295 s (by decide) h,not32 s h]
theorem and15 (y:Nat) (h:y<4294967296):bits .and .u32 (y:Int) 15=((y % 16:Nat):Int):=by
 have e:=u32_and_nat y 15 h (by decide);have e2:y &&& 15=y % 16:=Nat.and_two_pow_sub_one_eq_mod y 4;rw[e2] at e;exact e
theorem crcOn_any (sum:Nat) (a:Option Addr) (len cap:Nat) (l:List UInt8) (w:World) (hs:sum<4294967296) (hbs:Bs w a len cap l) (hh:Half w) :
 Calls Tryz.prog 112 #[.int .u32 sum,.slice a len cap] w fun e w'=>e=.returned (.int .u32 (crcOn sum l))∧w=w':=by
 have hll:=Hd hbs.len;have hm:=hbs.cap;unfold maxLen at hm;have hn:=not_u32 sum hs;obtain⟨x0,hx0⟩:∃x0,x0=4294967295-sum:=⟨_,rfl⟩
 have hres:crcOn sum l=4294967295-crcX x0 l:=by rw[hx0];rfl
 have hx0b:x0<4294967296:=by omega
 rw[←hx0] at hn;have HR:=Hd hres;clear hx0 hres;go_enter Tryz.func112,Tryz.ntmps112
 go_wp2
 go_loop [5,12] (fun x i=>∃k:Nat,k≤len∧i=.int .i64 k∧x=.int .u32 (crcX x0 (l.take k))) (fun _ i=>len-(intOf i).toNat)
 case atStart=>exact⟨0,Nat.zero_le _,rfl,rfl⟩
 case round=>
  obtain⟨k,hk,rfl,rfl⟩:=hrel
  by_cases hlt:k<len
  ·obtain⟨b,off,rfl,hb,hcell⟩:=hbs.cell hlt
   have hck:=hcell k hlt;have hxl:=crcX_lt (l.take k) hx0b;have hst:crcX x0 (l.take (k+1))=stepC (crcX x0 (l.take k)) (l[k]?.getD 0):=by
    rw[List.take_add_one,List.getElem?_eq_getElem (by rw[hll.out];exact hlt)];exact crcX_snoc _ _ _
   have hcb:(l[k]?.getD 0).toNat<256:=(l[k]?.getD 0).toNat_lt;generalize l[k]?.getD 0=c at *;generalize crcX x0 (l.take k)=x at *;have H:=Hd hst;clear hst hcell;have hx1:=u32_xor_nat x c.toNat (by omega) (by omega);have hy:=xor_lt hxl (show c.toNat<4294967296 by omega);have hy8:stepC x c=steps 4 (steps 4 (x ^^^ c.toNat)):=steps_add 4 4 _;have hz:=steps_lt 4 hy;have f1:=steps_four (x ^^^ c.toNat);have f2:=steps_four (steps 4 (x ^^^ c.toNat));generalize x ^^^ c.toNat=y at *;generalize hzz:steps 4 y=z at *;generalize stepC x c=q at *;generalize hqq:steps 4 z=q' at *;have hq4:=steps_lt 4 hz;rw[hqq] at hq4;have h1:y % 16<16:=by omega
   have h2:z % 16<16:=by omega
   have t1:=hh.2 (y % 16) h1;have t2:=hh.2 (z % 16) h2;have hv1:half[y % 16]?.getD 0<4294967296:=by rw[half_eq _ h1];exact steps_lt 4 (by omega)
   have hv2:half[z % 16]?.getD 0<4294967296:=by rw[half_eq _ h2];exact steps_lt 4 (by omega)
   generalize half[y % 16]?.getD 0=v1 at *;generalize half[z % 16]?.getD 0=v2 at *;have hxo1:=u32_xor_nat (y / 16) v1 (by omega) hv1;have hxo2:=u32_xor_nat (z / 16) v2 (by omega) hv2;rw[←f1] at hxo1;rw[←f2] at hxo2;have hxo1:bits .xor .u32 ((y:Int) / 16) (v1:Int)=(z:Int):=hxo1;have hxo2:bits .xor .u32 ((z:Int) / 16) (v2:Int)=(q':Int):=hxo2;have HQ:=Hd hy8;have a1:=and15 y hy;have a2:=and15 z hz;clear f1 f2 hy8 hzz hqq hh
   go_wp2
   go_round
   case rel=>exact⟨k+1,by omega,by go_num,by rw[H.out,HQ.out]⟩
   case measure=>simp[intOf];omega
  ·obtain rfl:k=len:=by omega
   have hx:l.take k=l:=List.take_of_length_le (by rw[hll.out];exact Nat.le_refl _);rw[hx];have hxl:=crcX_lt l hx0b;have hn2:=not_u32 (crcX x0 l) hxl;rw[←HR.out] at hn2;clear hx;exact q72c811
theorem crcOf_any (a:Option Addr) (len cap:Nat) (l:List UInt8) (w:World) (hbs:Bs w a len cap l) (hh:Half w) :
 Calls Tryz.prog 69 #[.slice a len cap] w fun e w'=>e=.returned (.int .u32 (crcOf l))∧w=w':=by
 go_enter Tryz.func69,Tryz.ntmps69;go_wp2_with fail;refine(crcOn_any 0 a len cap l w (by omega) hbs hh).mono ?_;rintro e w' ⟨rfl,rfl⟩;exact q72c811
theorem refOn_any (sum:Nat) (l:List UInt8) (w:World) (hs:sum<4294967296) (hl:l.length≤9223372036854775807) :
 Calls Tryz.prog 113 #[.int .u32 sum,.string (strOf l)] w fun e w'=>e=.returned (.int .u32 (crcOn sum l))∧w=w':=by
 have hsz:=strOf_size l;obtain⟨x0,hx0⟩:∃x0,x0=4294967295-sum:=⟨_,rfl⟩
 have hres:crcOn sum l=4294967295-crcX x0 l:=by rw[hx0];rfl
 have hx0b:x0<4294967296:=by omega
 have hx0c:(x0:Int)=4294967295-(sum:Int):=by omega
 have HR:=Hd hres;have HX:=Hd hx0c;clear hx0 hres hx0c;go_enter Tryz.func113,Tryz.ntmps113
 go_wp2
 go_loop [5,6,7,8] (fun x i _ _=>∃k:Nat,k≤l.length∧i=.int .i64 k∧x=.int .u32 (crcX x0 (l.take k))) (fun _ i _ _=>l.length-(intOf i).toNat)
 case atStart=>exact⟨0,Nat.zero_le _,rfl,by show _=Value.int .u32 (x0:Int);rw[HX.out]⟩
 case round=>
  obtain⟨k,hk,rfl,rfl⟩:=hrel
  by_cases hlt:k<l.length
  ·have hxl:=crcX_lt (l.take k) hx0b
   have hst:crcX x0 (l.take (k+1))=stepC (crcX x0 (l.take k)) (l[k]?.getD 0):=by
    rw[List.take_add_one,List.getElem?_eq_getElem hlt];exact crcX_snoc _ _ _
   have hget:=strOf_get l k hlt;have hcb:(l[k]?.getD 0).toNat<256:=(l[k]?.getD 0).toNat_lt;generalize l[k]?.getD 0=c at *;generalize crcX x0 (l.take k)=x at *;have H:=Hd hst;clear hst;have hx1:=u32_xor_nat x c.toNat (by omega) (by omega);have hy:=xor_lt hxl (show c.toNat<4294967296 by omega);have hq:stepC x c=steps 8 (x ^^^ c.toNat):=rfl;generalize x ^^^ c.toNat=y at *;generalize stepC x c=q at *;have HQ:=Hd hq;clear hq
   go_wp2
   go_loop [5,7,8] (fun x kk _=>∃j:Nat,j≤8∧kk=.int .i64 j∧x=.int .u32 (steps j y)) (fun _ kk _=>8-(intOf kk).toNat)
   case atStart=>exact⟨0,by omega,rfl,rfl⟩
   case round=>
    obtain⟨j,hj,rfl,rfl⟩:=hrel
    by_cases hj8:j<8
    ·have hz:=steps_lt j hy
     have hs1:=steps_succ j y;generalize steps j y=z at *;have HS:=Hd hs1;clear hs1;have hpo:=u32_xor_nat (z / 2) 3988292384 (by omega) (by omega);have hpo:bits .xor .u32 ((z:Int) / 2) 3988292384=((z / 2 ^^^ 3988292384:Nat):Int):=hpo
     by_cases ho:z % 2=1
     ·have hb:(((z:Int) % 2) == 1)=true:=by simp;omega
      have hbz:stepB z=z / 2 ^^^ 3988292384:=by rw[stepB,if_pos ho]
      have HB:=Hd hbz;clear hbz ho
      go_wp2
      go_round
      case rel=>exact⟨j+1,by omega,by go_num,by rw[HS.out,HB.out]⟩
      case measure=>simp[intOf];omega
     ·have hb:(((z:Int) % 2) == 1)=false:=by simp;omega
      have hbz:stepB z=z / 2:=by rw[stepB,if_neg ho]
      have HB:=Hd hbz;clear hbz ho hpo
      go_wp2
      go_round
      case rel=>exact⟨j+1,by omega,by go_num,by rw[HS.out,HB.out];go_num⟩
      case measure=>simp[intOf];omega
    ·obtain rfl:j=8:=by omega
     rw[←HQ.out]
     go_wp2
     go_round
     case rel=>exact⟨k+1,by omega,by go_num,by rw[H.out]⟩
     case measure=>simp[intOf];omega
  ·obtain rfl:k=l.length:=by omega
   rw[List.take_length];have hxl:=crcX_lt l hx0b;have hn2:(4294967295:Int)-(crcX x0 l:Int)=(crcOn sum l:Int):=by rw[HR.out];omega
   exact q72c811
theorem refOf_any (l:List UInt8) (w:World) (hl:l.length≤9223372036854775807) :
 Calls Tryz.prog 70 #[.string (strOf l)] w fun e w'=>e=.returned (.int .u32 (crcOf l))∧w=w':=by
 go_enter Tryz.func70,Tryz.ntmps70;go_wp2_with fail;refine(refOn_any 0 l w (by omega) hl).mono ?_;rintro e w' ⟨rfl,rfl⟩;exact q72c811
def lens (l:List (List UInt8)):Nat:=(l.map List.length).sum
theorem lens_append (a b:List (List UInt8)):lens (a++b)=lens a+lens b:=by simp[lens]
theorem lens_one (c:List UInt8):lens [c]=c.length:=by simp[lens]
theorem take_snoc {α:Type} (l:List α) (k:Nat) (d:α) (h:k<l.length):l.take (k+1)=l.take k++[l[k]?.getD d]:=by
 rw[List.take_add_one,List.getElem?_eq_getElem h];rfl
theorem lens_take_succ (l:List (List UInt8)) (k:Nat) (h:k<l.length):lens (l.take (k+1))=lens (l.take k)+(l[k]?.getD []).length:=by
 rw[take_snoc l k [] h,lens_append,lens_one]
theorem lens_take_le (l:List (List UInt8)) (k:Nat):lens (l.take k)≤lens l:=by
 have h:=lens_append (l.take k) (l.drop k);rw[List.take_append_drop] at h;omega
def slotsOf:Nat→List (List UInt8)→List UInt8
 | _,[]=>[]
 | e,c::r=>UInt8.ofNat (e-c.length)::slotsOf (e-c.length) r
def backOf (l:List (List UInt8)):List UInt8:=l.reverse.flatten
theorem slotsOf_length (l:List (List UInt8)):∀e,(slotsOf e l).length=l.length:=by
 induction l with
 | nil=>intro e;rfl
 | cons c r ih=>intro e;simp[slotsOf,ih]
theorem slotsOf_append (l m:List (List UInt8)):∀e,slotsOf e (l++m)=slotsOf e l++slotsOf (e-lens l) m:=by
 induction l with
 | nil=>intro e;simp[slotsOf,lens]
 | cons c r ih=>intro e;simp[slotsOf,ih,lens,Nat.sub_sub]
theorem backOf_append (l m:List (List UInt8)):backOf (l++m)=backOf m++backOf l:=by simp[backOf]
theorem backOf_one (c:List UInt8):backOf [c]=c:=by simp[backOf]
theorem backOf_length (l:List (List UInt8)):(backOf l).length=lens l:=by
 induction l with
 | nil=>rfl
 | cons c r ih=>
  have h1:c::r=[c]++r:=rfl;rw[h1,backOf_append,List.length_append,ih,backOf_one,lens_append,lens_one];omega
def bodyOf (kind:UInt8) (n:Nat) (l:List (List UInt8)):List UInt8:=
 kind::UInt8.ofNat n::(slotsOf 128 l++(List.replicate (122-l.length-lens l) 0++backOf l))
def pageOf (kind:UInt8) (l:List (List UInt8)):List UInt8:=beBytes (crcOf (bodyOf kind l.length l)) 4++bodyOf kind l.length l
theorem bodyOf_length (kind:UInt8) (n:Nat) (l:List (List UInt8)) (h:l.length+lens l≤122):(bodyOf kind n l).length=124:=by
 simp[bodyOf,slotsOf_length,backOf_length];omega
def rawOf (kind:UInt8) (n:Nat) (l:List (List UInt8)):List UInt8:=[0,0,0,0]++bodyOf kind n l
theorem rawOf_length (kind:UInt8) (n:Nat) (l:List (List UInt8)) (h:l.length+lens l≤122):(rawOf kind n l).length=128:=by
 rw[rawOf,List.length_append,bodyOf_length kind n l h];rfl
theorem rawOf_nil (kind:UInt8) (n:Nat):rawOf kind n []=((List.replicate 128 (0:UInt8)).set 4 kind).set 5 (UInt8.ofNat n):=by
 simp[rawOf,bodyOf,slotsOf,backOf,lens,List.replicate,List.set]
theorem splice_mid {α:Type} (a z c b:List α) (h:c.length≤z.length):splice (a++(z++b)) (a.length+(z.length-c.length)) c=a++(z.take (z.length-c.length)++(c++b)):=by
 unfold splice;have e1:(a++(z++b)).take (a.length+(z.length-c.length))=a++z.take (z.length-c.length):=by
  rw[List.take_append,List.take_of_length_le (by omega)]
  congr 1
  rw[List.take_append_of_le_length (by omega)]
  congr 1;omega
 have e2:(a++(z++b)).drop (a.length+(z.length-c.length)+c.length)=b:=by
  have:a.length+(z.length-c.length)+c.length=(a++z).length:=by simp;omega
  rw[this,←List.append_assoc,List.drop_append,List.drop_length];simp
 rw[e1,e2];simp
theorem raw_step (kind:UInt8) (n:Nat) (l:List (List UInt8)) (c:List UInt8) (h:l.length+1+lens l+c.length≤122) :
 (splice (rawOf kind n l) (128-lens l-c.length) c).set (6+l.length) (UInt8.ofNat (128-lens l-c.length))=rawOf kind n (l++[c]):=by
 have e1:rawOf kind n l=([0,0,0,0,kind,UInt8.ofNat n]++slotsOf 128 l)++(List.replicate (122-l.length-lens l) 0++backOf l):=by simp[rawOf,bodyOf]
 have e2:=splice_mid ([0,0,0,0,kind,UInt8.ofNat n]++slotsOf 128 l) (List.replicate (122-l.length-lens l) 0) c (backOf l) (by simp;omega);have e3:([0,0,0,0,kind,UInt8.ofNat n]++slotsOf 128 l).length+((List.replicate (122-l.length-lens l) (0:UInt8)).length-c.length)=128-lens l-c.length:=by
  simp[slotsOf_length];omega
 rw[e3] at e2;rw[e1,e2,List.set_append_right _ _ (by simp[slotsOf_length];omega)];have e4:6+l.length-([0,0,0,0,kind,UInt8.ofNat n]++slotsOf 128 l).length=0:=by simp[slotsOf_length];omega
 obtain⟨m,hm⟩:∃m,122-l.length-lens l-c.length=m+1:=⟨122-l.length-lens l-c.length-1,by omega⟩
 have e5:(List.replicate (122-l.length-lens l) (0:UInt8)).take ((List.replicate (122-l.length-lens l) (0:UInt8)).length-c.length)=0::List.replicate m 0:=by
  rw[List.length_replicate,List.take_replicate,Nat.min_eq_left (by omega),hm,List.replicate_succ]
 rw[e4,e5];have e6:122-(l++[c]).length-lens (l++[c])=m:=by simp[lens_append,lens_one];omega
 simp only[rawOf,bodyOf,slotsOf_append,backOf_append,backOf_one,e6,slotsOf,List.cons_append,List.nil_append,List.append_assoc,List.set_cons_zero]
theorem raw_sum (kind:UInt8) (n:Nat) (l:List (List UInt8)) (s:List UInt8) (h:s.length=4):splice (rawOf kind n l) 0 s=s++bodyOf kind n l:=by
 unfold splice rawOf;rw[h];rfl
open Go.RowKit
theorem size_bytes (w:World):(sizeOf (Tryz.prog.elem 42)).run Tryz.prog w=.ok 1 w:=by kernel_rfl
theorem elem_bytes:Tryz.prog.underlying 42=some (.slice (Tryz.prog.elem 42)):=by kernel_rfl
def Tk (w:World) (t:Nat) (s:TSt):Prop:=
 ∃a cap,w.heap[t]? = some (.cells #[.slice a s.l.length cap,.int .i64 s.e] 231 (0,0))∧Bs w a s.l.length cap s.l
theorem Tk.lt {w:World} {t:Nat} {s:TSt} (h:Tk w t s):t<w.heap.size:=by
 obtain⟨a,cap,h1,_⟩:=h;exact(Array.getElem?_eq_some_iff.1 h1).1
theorem bs_ne {w:World} {t:Nat} {a b:Option Addr} {n m len cap:Nat} {e:Int} {T:TypeId} {l:List UInt8} (h1:w.heap[t]? = some (.cells #[.slice b n m,.int .i64 e] T (0,0))) (h2:Bs w a len cap l) :
 ∀b off,len≠0→a=some ⟨b,off,none⟩→some t≠some b:=by
 intro b off hl ha hb;cases hb;obtain⟨b',off',e1,_,h7⟩:=h2.cell (k:=0) (by omega);rw[ha] at e1;cases e1;have:=h7 0 (by omega);simp only[World.cell?,h1,Nat.add_zero] at this
 match off,this with
 | 0,this=>simp at this
 | 1,this=>simp at this
 | n+2,this=>simp at this
theorem Tk.grown {w w':World} {t:Nat} {s:TSt} {row:Option Nat} (h:Tk w t s) (hg:w.grownBy w' row) (hne:row≠some t) (hb:∀a n m b off,w.heap[t]? = some (.cells #[.slice a n m,.int .i64 s.e] 231 (0,0))→s.l.length≠0→a=some ⟨b,off,none⟩→row≠some b):Tk w' t s:=by
 obtain⟨a,cap,h1,h2⟩:=h;exact⟨a,cap,(hg.block t (Array.getElem?_eq_some_iff.1 h1).1 (fun e=>hne e.symm)).trans h1,h2.grown hg (fun b off h3 h4=>hb a _ _ b off h1 h3 h4)⟩
theorem Tk.below {w w':World} {t:Nat} {s:TSt} {B:Nat} (hB:w.heap.size≤B) (hb:Below B w w') (h:Tk w t s):Tk w' t s:=by
 obtain⟨a,cap,h1,h2⟩:=h;exact⟨a,cap,(hb.block t (Nat.lt_of_lt_of_le (Array.getElem?_eq_some_iff.1 h1).1 hB)).trans h1,h2.below hB hb⟩
def TkPost (w:World) (t:Nat) (R:World→Value→Prop) (s':TSt) (e:Ending) (w':World):Prop:=
 ∃v,e=.returned v∧R w' v∧w.grownBy w' (some t)∧Tk w' t s'
theorem beVal_step (l:List UInt8) (k:Nat) (h:k<l.length):beVal (l.take (k+1))=beVal (l.take k)*256+(l[k]?.getD 0).toNat:=by
 rw[List.take_add_one,List.getElem?_eq_getElem h];exact beVal_snoc _ _
theorem num1_any (a:Option Addr) (len cap:Nat) (l:List UInt8) (w:World) (h:Bs w a len cap l) (h8:len≤8) :
 Calls Tryz.prog 106 #[.slice a len cap] w fun e w'=>e=.returned (.int .u64 (beVal l))∧w=w':=by
 have hll:=Hd h.len;have hm:=h.cap.2;have hc:=h.cap.1;unfold maxLen at hm;go_enter Tryz.func106,Tryz.ntmps106
 go_wp2
 go_loop [3,8] (fun x i=>∃k:Nat,k≤len∧i=.int .i64 k∧x=.int .u64 (beVal (l.take k))) (fun _ i=>len-(intOf i).toNat)
 case atStart=>exact⟨0,Nat.zero_le _,rfl,rfl⟩
 case round=>
  obtain⟨k,hk,rfl,rfl⟩:=hrel
  by_cases hlt:k<len
  ·obtain⟨b,off,rfl,hb,hcell⟩:=h.cell hlt
   have hck:=hcell k hlt;have hst:=beVal_step l k (by rw[hll.out];exact hlt);have hbd:beVal (l.take k)<72057594037927936:=by
    have h1:=beVal_lt (l.take k);have h2:(l.take k).length≤7:=by simp;omega
    have h3:256 ^ (l.take k).length≤256 ^ 7:=Nat.pow_le_pow_right (by decide) h2;omega
   have hcb:=(l[k]?.getD 0).toNat_lt;generalize (l[k]?.getD 0).toNat=c at *;generalize beVal (l.take k)=x at *;have H:=Hd hst;clear hst hcell;have hor:=or256 x c hbd hcb;exact q931089
  ·obtain rfl:k=len:=by omega
   have hx:l.take k=l:=List.take_of_length_le (by rw[hll.out];exact Nat.le_refl _);rw[hx];clear hx;exact q72c811
theorem text1_any (a:Option Addr) (len cap:Nat) (l:List UInt8) (w:World) (h:Bs w a len cap l) :
 Calls Tryz.prog 108 #[.slice a len cap] w fun e w'=>e=.returned (.string (strOf l))∧w=w':=by
 have hcv:=conv_string Tryz.underlying42 Tryz.underlying5 Tryz.underlying9 h;go_enter Tryz.func108,Tryz.ntmps108;exact q72c811
theorem clone_any (a:Option Addr) (len cap:Nat) (l:List UInt8) (w:World) (h:Bs w a len cap l) (hreach:len≤140737488351232) :
 Calls Tryz.prog 104 #[.slice a len cap] w (OwnBytes 5 w l):=by
 obtain⟨i0,hi,hz0,hz1,hz2⟩:=info_parts info_u8;have hll:=Hd h.len;cases a with
 | none=>
  have hc:=h.2.2.2.1 rfl;have h0:len=0:=by have:=h.2.1;omega
  subst hc h0;have hl0:l=[]:=List.eq_nil_of_length_eq_zero h.len;have HL:=Hd hl0;clear hl0;have hq:∀W:World,(binOp .eql 42 (.slice none 0 0) (.slice none 0 0)).run Tryz.prog W=.ok (.bool true) W:=fun W=>Lib.run_eql_slice_nil W _ _ none 0 0 0 0 Tryz.underlying42
  go_enter Tryz.func104,Tryz.ntmps104
  go_wp2
  go_ret;exact⟨_,rfl,by rw[HL.out];exact⟨rfl,.inl ⟨rfl,rfl⟩⟩,Below.refl _ _⟩
 | some x=>
  have hm:=h.cap.2;unfold maxLen at hm;have hq:∀W:World,(binOp .eql 42 (.slice (some x) len cap) (.slice none 0 0)).run Tryz.prog W=.ok (.bool false) W:=fun W=>Lib.run_eql_slice_nil W _ _ (some x) len cap 0 0 Tryz.underlying42
  go_enter Tryz.func104,Tryz.ntmps104;exact q8f9fd8
end Go.Proofs.YtpghlmcoajaiiaaGreatDoor
namespace Go.Proofs.YtpghlmcoajaiiaaGreatDoor
open Go.RowKit Go.Deep Go.WideShapes
def TabR {α:Type} (sz:Nat) (R:List Value→α→Prop) (w:World) (a:Option Addr) (len cap:Nat) (l:List α):Prop:=
 l.length=len∧len≤cap∧cap≤maxLen∧(a=none→cap=0)∧(len=0∨∃b off,a=some ⟨b,off,none⟩∧b<w.heap.size ∧
  ∀i y,l[i]? = some y→∃cs,cs.length=sz∧R cs y∧∀j v,cs[j]? = some v→w.cell? ⟨b,off+i*sz+j,none⟩=some v)
theorem TabR.mono {α:Type} {sz:Nat} {R R':List Value→α→Prop} {w:World} {a:Option Addr} {len cap:Nat} {l:List α} (h:TabR sz R w a len cap l) (hR:∀cs y,R cs y→R' cs y):TabR sz R' w a len cap l:=by
 obtain⟨h1,h2,h3,hn,h4⟩:=h;refine⟨h1,h2,h3,hn,?_⟩
 rcases h4 with h4|⟨b,off,h5,h6,h7⟩
 ·exact .inl h4
 ·exact .inr ⟨b,off,h5,h6,fun i y hy=>by obtain⟨cs,c1,c2,c3⟩:=h7 i y hy;exact⟨cs,c1,hR _ _ c2,c3⟩⟩
theorem TabR.below {α:Type} {sz:Nat} {R:List Value→α→Prop} {w w':World} {a:Option Addr} {len cap:Nat} {l:List α} {B:Nat} (hB:w.heap.size≤B) (hb:Below B w w') (h:TabR sz R w a len cap l):TabR sz R w' a len cap l:=by
 obtain⟨h1,h2,h3,hn,h4⟩:=h;refine⟨h1,h2,h3,hn,?_⟩
 rcases h4 with h4|⟨b,off,h5,h6,h7⟩
 ·exact .inl h4
 ·exact .inr ⟨b,off,h5,by have:=hb.size;omega,fun i y hy=>by
   obtain⟨cs,c1,c2,c3⟩:=h7 i y hy;exact⟨cs,c1,c2,fun j v hv=>(hb.cell (p:=⟨b,off+i*sz+j,none⟩) (by simp;omega)).trans (c3 j v hv)⟩⟩
theorem TabR.at {α:Type} {sz:Nat} {R:List Value→α→Prop} {w:World} {a:Option Addr} {len cap:Nat} {l:List α} (h:TabR sz R w a len cap l) {k:Nat} (hk:k<len) :
 ∃b off y cs,a=some ⟨b,off,none⟩∧b<w.heap.size∧l[k]? = some y∧cs.length=sz∧R cs y∧∀j v,cs[j]? = some v→w.cell? ⟨b,off+k*sz+j,none⟩=some v:=by
 obtain⟨h1,h2,h3,hn,h4⟩:=h
 rcases h4 with h4|⟨b,off,h5,h6,h7⟩
 ·omega
 ·have hy:l[k]? = some l[k]:=List.getElem?_eq_getElem (by omega)
  obtain⟨cs,c1,c2,c3⟩:=h7 k _ hy;exact⟨b,off,_,cs,h5,h6,hy,c1,c2,c3⟩
theorem add_none (b off j:Nat):(⟨b,off,none⟩:Addr).add j=⟨b,off+j,none⟩:=by unfold Addr.add;split<;>simp_all
section
variable {H:Type} {enc:TypeId×Value→H} {P:Program} {w:World} {base:Nat}
theorem open_tab {α:Type} {t e:TypeId} {sz:Nat} (ht:P.underlying t=some (.slice e)) (hsz:P.cellsOf e=sz) (hpos:0<sz) (R:List Value→α→Prop)
 (hR:∀n cs x,cs.length=sz→DataW.trod enc P w 0 (fun _=>true) true n e cs=some x→∃y,R cs y)
 {v:Value} {d:DataW H} {p:List MemPlace} (hv:Value.okWide P w .any base t v) (h:DataW.Trod enc P w 0 (fun _=>true) true t v d p) :
 ∃a len cap l,v=.slice a len cap∧TabR sz R w a len cap l:=by
 obtain⟨a,len,cap,rfl⟩:=okWide_slice ht hv;obtain⟨fuel,hf⟩:=h
 rcases open_slice ht hf with⟨hcs,_⟩|⟨x,len',cap',m,n,D,Pl,hcs,_,hl,hm,hmm,_,hx⟩
 ·simp[Value.cells] at hcs
  obtain⟨rfl,rfl,rfl⟩:=hcs;exact⟨none,0,0,[],rfl,rfl,Nat.le_refl _,by unfold maxLen;omega,fun _=>rfl,.inl rfl⟩
 ·simp[Value.cells] at hcs
  obtain⟨rfl,rfl,rfl⟩:=hcs;have hlm:len≤m:=by rw[hmm];exact hl
  rw[hsz] at hx;have each:∀i,i<len→∃q:α×List Value,q.2.length=sz∧R q.2 q.1∧∀j,j<sz→w.cell? ((x.add (i*sz)).add j)=q.2[j]? := by
   intro i hi;obtain⟨cs',h1,h2⟩:=hx i (by omega);obtain⟨_,hlen,hcell⟩:=World.cells?_some h1;obtain⟨y,hy⟩:=hR n cs' _ hlen h2;exact⟨(y,cs'),hlen,hy,hcell⟩
  by_cases h0:len=0
  ·subst h0
   exact⟨_,0,cap,[],rfl,rfl,hl,hm,(fun h=>by cases h),.inl rfl⟩
  ·obtain⟨q0,g1,_,g3⟩:=each 0 (by omega)
   haveI:Inhabited (α×List Value):=⟨q0⟩
   obtain⟨q,hq⟩:=choose_lt each;have g4:=g3 0 hpos;obtain⟨v0,hv0⟩:∃v0,q0.2[0]? = some v0:=⟨_,List.getElem?_eq_getElem (by omega)⟩
   rw[hv0] at g4;obtain⟨b,off,spot⟩:=x;have hspot:spot=none:=by
    have:=World.cell?_spot g4;simp[Addr.add] at this;exact this
   subst hspot;simp only[add_none] at hq g4;refine⟨_,len,cap,(List.range len).map fun i=>(q i).1,rfl,by simp,hl,hm,(fun h=>by cases h),.inr ⟨b,off,rfl,?_,fun i y hy=>?_⟩⟩
   ·by_cases hb:b<w.heap.size
    ·exact hb
    ·simp only[World.cell?] at g4
     rw[Array.getElem?_eq_none (show w.heap.size≤b by omega)] at g4;simp at g4
   ·have hi:i<len:=by
     have:=(List.getElem?_eq_some_iff.1 hy).1;simpa using this
    obtain⟨c1,c2,c3⟩:=hq i hi;have hy':y=(q i).1:=by
     simp[hi] at hy;exact hy.symm
    subst hy';refine⟨(q i).2,c1,c2,fun j v hv=>?_⟩;have hj:j<sz:=by rw[←c1];exact(List.getElem?_eq_some_iff.1 hv).1
    rw[c3 j hj];exact hv
end
end Go.Proofs.YtpghlmcoajaiiaaGreatDoor
namespace Go.Proofs.YtpghlmcoajaiiaaGreatDoor
open Go.RowKit
theorem equal_any (a:Option Addr) (n cap:Nat) (l:List UInt8) (b:Option Addr) (m cap2:Nat) (r:List UInt8) (w:World) (h1:Bs w a n cap l) (h2:Bs w b m cap2 r) :
 Calls Tryz.prog 173 #[.slice a n cap,.slice b m cap2] w fun e w'=>e=.returned (.bool (l == r))∧w=w':=by
 have c1:=conv_string Tryz.underlying42 Tryz.underlying5 Tryz.underlying9 h1;have c2:=conv_string Tryz.underlying42 Tryz.underlying5 Tryz.underlying9 h2;have hst:=strOf_toList;go_enter Tryz.func173,Tryz.ntmps173;exact q72c811
theorem bclone_any (a:Option Addr) (len cap:Nat) (l:List UInt8) (w:World) (h:Bs w a len cap l) (hreach:len≤140737488351232) :
 Calls Tryz.prog 171 #[.slice a len cap] w (OwnBytes 5 w l):=by
 obtain⟨i0,hi,hz0,hz1,hz2⟩:=info_parts info_u8;have hll:=Hd h.len;cases a with
 | none=>
  have hc:=h.2.2.2.1 rfl;have h0:len=0:=by have:=h.2.1;omega
  subst hc h0;have hl0:l=[]:=List.eq_nil_of_length_eq_zero h.len;have HL:=Hd hl0;clear hl0;have hq:∀W:World,(binOp .eql 42 (.slice none 0 0) (.slice none 0 0)).run Tryz.prog W=.ok (.bool true) W:=fun W=>Lib.run_eql_slice_nil W _ _ none 0 0 0 0 Tryz.underlying42
  go_enter Tryz.func171,Tryz.ntmps171
  go_wp2
  go_ret;exact⟨_,rfl,by rw[HL.out];exact⟨rfl,.inl ⟨rfl,rfl⟩⟩,Below.refl _ _⟩
 | some x=>
  have hm:=h.cap.2;unfold maxLen at hm;have hq:∀W:World,(binOp .eql 42 (.slice (some x) len cap) (.slice none 0 0)).run Tryz.prog W=.ok (.bool false) W:=fun W=>Lib.run_eql_slice_nil W _ _ (some x) len cap 0 0 Tryz.underlying42
  go_enter Tryz.func171,Tryz.ntmps171;exact q8f9fd8
def IsBs (w:World) (cs:List Value) (y:List UInt8):Prop:=∃a n cap,cs=[.slice a n cap]∧Bs w a n cap y
def Bss (w:World) (a:Option Addr) (len cap:Nat) (l:List (List UInt8)):Prop:=TabR 1 (IsBs w) w a len cap l
theorem Bss.below {w w':World} {a:Option Addr} {len cap:Nat} {l:List (List UInt8)} {B:Nat} (hB:w.heap.size≤B) (hb:Below B w w') (h:Bss w a len cap l):Bss w' a len cap l:=
 (TabR.below hB hb h).mono fun _ _ ⟨a,n,c,e,h⟩=>⟨a,n,c,e,h.below hB hb⟩
theorem Bss.at {w:World} {a:Option Addr} {len cap:Nat} {l:List (List UInt8)} (h:Bss w a len cap l) {k:Nat} (hk:k<len) :
 ∃b off a' n' cap',a=some ⟨b,off,none⟩∧b<w.heap.size∧w.cell? ⟨b,off+k,none⟩=some (.slice a' n' cap')∧Bs w a' n' cap' (l[k]?.getD []):=by
 obtain⟨b,off,y,cs,e1,e2,e3,_,⟨a',n',cap',rfl,e5⟩,e6⟩:=TabR.at h hk;refine⟨b,off,a',n',cap',e1,e2,?_,by rw[e3];exact e5⟩;have:=e6 0 _ rfl;simpa using this
def IsStr (cs:List Value) (y:List UInt8):Prop:=cs=[.string (strOf y)]
def Strs (w:World) (a:Option Addr) (len cap:Nat) (l:List (List UInt8)):Prop:=TabR 1 IsStr w a len cap l
theorem Strs.at {w:World} {a:Option Addr} {len cap:Nat} {l:List (List UInt8)} (h:Strs w a len cap l) {k:Nat} (hk:k<len) :
 ∃b off,a=some ⟨b,off,none⟩∧b<w.heap.size∧w.cell? ⟨b,off+k,none⟩=some (.string (strOf (l[k]?.getD []))):=by
 obtain⟨b,off,y,cs,e1,e2,e3,_,e5,e6⟩:=TabR.at h hk;subst e5;have:=e6 0 _ rfl;refine⟨b,off,e1,e2,?_⟩;rw[e3];simpa using this
theorem csize_any (a:Option Addr) (len cap:Nat) (l:List (List UInt8)) (w:World) (h:Bss w a len cap l) (hb:len+lens l≤9223372036854775807) :
 Calls Tryz.prog 175 #[.slice a len cap] w fun e w'=>e=.returned (.int .i64 ((len+lens l:Nat):Int))∧w=w':=by
 have hll:=Hd h.1;have hm:=h.2.2.1;have hc:=h.2.1;unfold maxLen at hm;go_enter Tryz.func175,Tryz.ntmps175
 go_wp2
 go_loop [3,10] (fun s i=>∃k:Nat,k≤len∧i=.int .i64 k∧s=.int .i64 ((len+lens (l.take k):Nat):Int)) (fun _ i=>len-(intOf i).toNat)
 case atStart=>exact⟨0,Nat.zero_le _,rfl,by simp[lens]⟩
 case round=>
  obtain⟨k,hk,rfl,rfl⟩:=hrel
  by_cases hlt:k<len
  ·obtain⟨b,off,a',n',cap',rfl,hbb,hcell,hbs⟩:=h.at hlt
   have hst:=lens_take_succ l k (by rw[hll.out];exact hlt);have hle:=lens_take_le l (k+1);rw[hbs.len] at hst;have hst2:len+lens (l.take (k+1))=len+lens (l.take k)+n':=by omega
   have hle2:len+lens (l.take k)+n'≤9223372036854775807:=by omega
   have H:=Hd hst2;clear hst hst2 hle;generalize len+lens (l.take k)=q at *;exact q931089
  ·obtain rfl:k=len:=by omega
   exact q7b2129
def Page (w:World) (g:Nat) (l:List UInt8):Prop:=w.heap[g]? = some (.cells ((toI l).map (Value.int .u8)).toArray 121 (0,0))
theorem zero_cells:Tryz.zeroCells121=((toI (List.replicate 128 (0:UInt8))).map (Value.int .u8)).toArray:=by kernel_rfl
theorem Page.cell {w:World} {g:Nat} {l:List UInt8} (h:Page w g l) {i:Nat} (hi:i<l.length):w.cell? ⟨g,i,none⟩=some (.int .u8 ((l[i]?.getD 0).toNat:Int)):=by
 have e:(((toI l).map (Value.int .u8)).toArray)[i]? = some (.int .u8 ((l[i]?.getD 0).toNat:Int)):=by simp[toI,hi]
 simp only[World.cell?,show w.heap[g]? = _ from h];exact e
theorem Page.frozen {w:World} {g:Nat} {l:List UInt8} (h:Page w g l) (i:Nat):w.frozen? ⟨g,i,none⟩=false:=by simp[World.frozen?,show w.heap[g]? = _ from h]
theorem Page.set {w:World} {g:Nat} {l:List UInt8} (h:Page w g l) (i:Nat) (n:Nat) (hn:n<256):Page (w.setCell ⟨g,i,none⟩ (.int .u8 (n:Int))) g (l.set i (UInt8.ofNat n)):=by
 have e1:=heap_setCell_at i (.int .u8 (n:Int)) h;have e2:(UInt8.ofNat n).toNat=n:=by rw[UInt8.toNat_ofNat'];omega
 unfold Page;rw[e1];simp[toI,List.map_set,e2]
theorem page_under:Tryz.prog.underlying 121=some (.array (Tryz.prog.arrayLen 121) (Tryz.prog.elem 121)):=by kernel_rfl
theorem page_len:Tryz.prog.arrayLen 121=128:=by kernel_rfl
theorem page_size (w:World):(sizeOf (Tryz.prog.elem 121)).run Tryz.prog w=.ok 1 w:=by kernel_rfl
theorem page_from (g e:Nat) (he:e≤128):∃a2:Addr,(e<128→a2=⟨g,e,none⟩) ∧
 ∀(k:IntKind) (w:World),(Instr.sliceAt 121 (.pointer (some ⟨g,0,none⟩)) (some (.int k (e:Int))) none none).run Tryz.prog w=.ok (.slice (some a2) (128-e) (128-e)) w:=by
 refine⟨if 128=e then ⟨g,0,none⟩ else (⟨g,0,none⟩:Addr).add (e*1),fun h=>by rw[if_neg (by omega),add_none];simp,fun k w=>?_⟩;rw[run_sliceAt_array_l w _ _ page_under k e (by omega) (by rw[page_len];omega),page_size,page_len]
 rfl
theorem Page.row {w:World} {g:Nat} {l:List UInt8} (h:Page w g l) (hl:l.length=128):Bs w (some ⟨g,0,none⟩) 128 128 l:=
 ⟨by rw[toI_length,hl],Nat.le_refl _,by unfold maxLen;omega,(fun h=>by cases h),.inr ⟨g,0,rfl,(Array.getElem?_eq_some_iff.1 h).1,fun i hi=>by rw[Nat.zero_add,h.cell (by omega),toI_get]⟩⟩
theorem Page.rest {w:World} {g e:Nat} {l:List UInt8} (h:Page w g l) (hl:l.length=128) (he:e≤128) {a2:Addr} (ha:e<128→a2=⟨g,e,none⟩):Bs w (some a2) (128-e) (128-e) (l.drop e):=
 ⟨by rw[toI_length,List.length_drop,hl],Nat.le_refl _,by unfold maxLen;omega,(fun h=>by cases h),by
  by_cases h0:e<128
  ·obtain rfl:=ha h0
   exact .inr ⟨g,e,rfl,(Array.getElem?_eq_some_iff.1 h).1,fun i hi=>by rw[h.cell (by omega),toI_get,List.getElem?_drop]⟩
  ·exact .inl (by omega)⟩
theorem splice_map {α β:Type} (f:α→β) (L:List α) (off:Nat) (cs:List α):splice (L.map f) off (cs.map f)=(splice L off cs).map f:=by simp[splice,List.map_take,List.map_drop]
theorem toI_splice (L:List UInt8) (off:Nat) (cs:List UInt8):splice ((toI L).map (Value.int .u8)) off ((toI cs).map (Value.int .u8))=(toI (splice L off cs)).map (Value.int .u8):=by
 rw[splice_map];congr 1;exact splice_map _ _ _ _
theorem Bs.source {w:World} {a:Option Addr} {n cap:Nat} {c:List UInt8} (h:Bs w a n cap c) (hpos:0<((toI c).map (Value.int .u8)).length) :
 ∃ad,a=some ad∧∀j v,((toI c).map (Value.int .u8))[j]? = some v→w.cell? (ad.add j)=some v:=by
 have hl:=h.len;have hp:0<n:=by simpa[toI,hl] using hpos
 obtain⟨b,off,e,_,hc⟩:=h.cell hp;refine⟨_,e,fun j v hj=>?_⟩;have hjl:j<c.length:=by
  have:=(List.getElem?_eq_some_iff.1 hj).1;simpa[toI] using this
 rw[add_none,hc j (by omega)];simp[toI,hjl] at hj ⊢;exact hj
theorem one_cells (c:List UInt8):∀v∈(toI c).map (Value.int .u8),v.oneCell'=true:=fun v hv=>by
 obtain⟨y,_,rfl⟩:=List.mem_map.1 hv;rfl
theorem info_one:(Tryz.prog.info? 5).map (·.size)=some 1:=by kernel_rfl
theorem copy_sum {w:World} {g n cap:Nat} {a:Option Addr} {raw s:List UInt8} (hp:Page w g raw) (hl:raw.length=128) (h:Bs w a n cap s) (hn:0<n) (hn2:n≤128) :
 ∃w4,(Builtin.copy_ #[42,42] 3 #[.slice (some ⟨g,0,none⟩) 128 128,.slice a n cap]).run Tryz.prog w=.ok (.int .i64 n) w4∧Page w4 g (splice raw 0 s)∧∀B w0,Below B w0 w→B≤g→Below B w0 w4:=by
 have hsl:=h.len;have hlen:((toI s).map (Value.int .u8)).length=n:=by rw[List.length_map,toI_length,hsl]
 obtain⟨ad,rfl,hsrc⟩:=h.source (by rw[hlen];exact hn);have hr:=run_copy_row (P:=Tryz.prog) w 42 42 3 5 g 0 128 128 ad n cap _ _ ((toI s).map (Value.int .u8)) Tryz.underlying42 info_one hp
  (by rw[hlen];exact(Nat.min_eq_left hn2).symm) hsrc (by rw[hlen,List.size_toArray,List.length_map,toI_length,hl];omega) (one_cells s)
 rw[hlen] at hr;refine⟨_,hr,?_,fun B w0 hb hB=>below_setRow hb hB _⟩;have h2:=setRow_heap w g _ ((((toI raw).map (Value.int .u8)).take 0++(toI s).map (Value.int .u8)++((toI raw).map (Value.int .u8)).drop (0+n)).toArray) _ (0,0) hp;unfold Page;rw[←toI_splice,splice,hlen,←List.append_assoc];exact h2
def PackPost (w:World) (p:List UInt8) (e:Ending) (w':World):Prop:=
 ∃v,e=.returned (.tuple #[v,.int .i64 0])∧w'.ownsRow w.heap.size 5 1 v 128 ((toI p).map (Value.int .u8))∧Below w.heap.size w w'
theorem pageOf_length (kind:UInt8) (l:List (List UInt8)) (h:l.length+lens l≤122):(pageOf kind l).length=128:=by
 rw[pageOf,List.length_append,beBytes_length,bodyOf_length kind _ l h]
theorem num_four (x:Nat) (w:World) (hx:x<18446744073709551616) :
 Calls Tryz.prog 64 #[.int .u64 x,.int .i64 4] w fun e w'=>∃a cap,e=.returned (.slice a 4 cap)∧Bs w' a 4 cap (beBytes x 4)∧Below w.heap.size w w':=by
 refine(num_ok x 4 w hx (by omega) (by omega)).mono ?_;rintro e w3 ⟨v,rfl,hown,hb3⟩;rw[beBytes_length] at hown;obtain⟨a5,cap5,rfl,hbs5⟩:=Bs.of_own hown;exact⟨a5,cap5,rfl,hbs5,hb3⟩
theorem own_baseC {w:World} {base b0:Nat} {e:TypeId} {size:Nat} {v:Value} {n:Nat} {xs:List Value} (h:w.ownsRow base e size v n xs) (hb:b0≤base):w.ownsRow b0 e size v n xs:=
 ⟨h.1,h.2.imp id fun⟨g,cap,cur,e,hg,r⟩=>⟨g,cap,cur,e,Nat.le_trans hb hg,r⟩⟩
theorem pack_ok (kind:UInt8) (a:Option Addr) (len cap:Nat) (l:List (List UInt8)) (w:World) (h:Bss w a len cap l) (hh:Half w) (hk:kind≠0) (hfit:len+lens l≤122) :
 Calls Tryz.prog 172 #[.int .u8 kind.toNat,.slice a len cap] w (PackPost w (pageOf kind l)):=by
 have hll:=Hd h.1;have hk':((kind.toNat:Int) == 0)=false:=by
  exact qad665f
 have hf2:decide ((122:Int)<(len:Int)+(lens l:Int))=false:=by simp;omega
 have hn8:(len:Int) % 256=(len:Int):=by omega
 have hk8:=kind.toNat_lt;go_enter Tryz.func172,Tryz.ntmps172;go_wp2_with fail;refine(csize_any a len cap l w h (by omega)).mono ?_;rintro e w' ⟨rfl,rfl⟩;go_wp2_with fail;have hp2:Page (w.alloc (.cells ((Tryz.zeroCells121.setIfInBounds 4 (.int .u8 (kind.toNat:Int))).setIfInBounds 5 (.int .u8 (len:Int))) 121)) w.heap.size (rawOf kind len []):=by
  unfold Page;rw[World.alloc_heap_new,rawOf_nil,zero_cells];have e4:(UInt8.ofNat len).toNat=len:=by rw[UInt8.toNat_ofNat'];omega
  simp only[toI,List.map_set,e4,List.setIfInBounds_toArray]
 have HP2:=Hd hp2;have hB2:=(Below.refl w.heap.size w).alloc (Nat.le_refl _) (.cells ((Tryz.zeroCells121.setIfInBounds 4 (.int .u8 (kind.toNat:Int))).setIfInBounds 5 (.int .u8 (len:Int))) 121);clear hp2;generalize w.alloc (.cells ((Tryz.zeroCells121.setIfInBounds 4 (.int .u8 (kind.toNat:Int))).setIfInBounds 5 (.int .u8 (len:Int))) 121)=w2 at *
 go_loopw [7,25] (fun e i wr=>∃k:Nat,k≤len∧i=.int .i64 k∧e=.int .i64 ((128-lens (l.take k):Nat):Int)∧Page wr w.heap.size (rawOf kind len (l.take k))∧Below w.heap.size w wr) (fun _ i _=>len-(intOf i).toNat)
 case atStart=>exact⟨0,Nat.zero_le _,rfl,rfl,HP2.out,hB2⟩
 case round=>
  obtain⟨k,hk,rfl,rfl,hp,hb⟩:=hrel
  by_cases hlt:k<len
  ·obtain⟨b,off,a',n',cap',rfl,hbb,hcell,hbs⟩:=(h.below (Nat.le_refl _) hb).at hlt
   have hm:=lens_take_le l (k+1);have hs:=lens_take_succ l k (by rw[hll.out];exact hlt);have hrl:=rawOf_length kind len (l.take k) (by rw[List.length_take,hll.out];have:=lens_take_le l k;omega);have hst:=raw_step kind len (l.take k) (l[k]?.getD []) (by rw[List.length_take,hll.out];omega);rw[←take_snoc l k [] (by rw[hll.out];exact hlt),List.length_take,hll.out,Nat.min_eq_left hk] at hst;have hcl:=hbs.len;obtain⟨c,hc⟩:∃c,c=l[k]?.getD []:=⟨_,rfl⟩
   rw[←hc] at hbs hst hs hcl;obtain⟨q,hq⟩:∃q,q=128-lens (l.take k):=⟨_,rfl⟩
   rw[←hq] at hst ⊢;rw[hcl] at hst hs;have HQ:=Hd hq;have HC:=Hd hcl;clear hc hq hcl;have HST:=Hd hst;have HRL:=Hd hrl;have HM:=Hd hm;have HS:=Hd hs;have hsub:(q:Int)-(n':Int)=((q-n':Nat):Int):=by have:=HQ.out;omega
   clear hst hrl hm hs;have hqe:6≤q-n'∧q-n'<9223372036854775808∧q-n'≤128:=by have:=HQ.out;have:=HM.out;have:=HS.out;omega
   obtain⟨e,he⟩:∃e,e=q-n':=⟨_,rfl⟩
   rw[←he] at hsub hqe HST;obtain⟨a2,ha2,hsl⟩:=page_from w.heap.size e hqe.2.2;have HE:=Hd he;have h256:(e:Int) % 256=(e:Int):=by omega
   clear he;have hqn:e+n'≤128:=by have:=HQ.out;have:=HM.out;have:=HS.out;have:=HE.out;omega
   have HP:=Hd hp;have HMIN:=Hd (show((toI c).map (Value.int .u8)).length=Nat.min n' (128-e) by rw[List.length_map,toI_length,HC.out];exact(Nat.min_eq_left (by omega)).symm);have HFIT:=Hd (show e+((toI c).map (Value.int .u8)).length≤((toI (rawOf kind len (l.take k))).map (Value.int .u8)).length by rw[List.length_map,toI_length,HC.out,List.length_map,toI_length,HRL.out];exact hqn);have HPOS:=Hd (show 0<((toI c).map (Value.int .u8)).length→(some a2:Option Addr)=some ⟨w.heap.size,e,none⟩∧∃ad,a'=some ad∧∀j v,((toI c).map (Value.int .u8))[j]? = some v→wr.cell? (ad.add j)=some v from fun hpos=>⟨congrArg some (ha2 (by rw[List.length_map,toI_length,HC.out] at hpos;omega)),hbs.source hpos⟩);clear hp
   go_wp2_with (refine wpList_copy_splice rfl _ _ 42 42 rfl 5 Tryz.underlying42 info_one (some a2) a' (128-e) (128-e) n' cap' rfl rfl w.heap.size e ((toI (rawOf kind len (l.take k))).map (Value.int .u8)) 121 HP.out ((toI c).map (Value.int .u8)) HMIN.out HPOS.out HFIT.out (one_cells c) w.heap.size w hb (Nat.le_refl _) ?_)
   intro w3 HG hB3;have hg3:Page w3 w.heap.size (splice (rawOf kind len (l.take k)) e c):=by
    have:=HG.out;rw[toI_splice] at this;exact this
   clear HG;have hlen3:(splice (rawOf kind len (l.take k)) e c).length=128:=by
    rw[length_splice _ _ _ (by rw[HRL.out,HC.out];exact hqn),HRL.out]
   have hc6:=hg3.cell (i:=6+k) (by rw[hlen3];omega);have hf6:=hg3.frozen (6+k);have hset:=hg3.set (6+k) e (by omega);rw[HST.out] at hset;have HSET:=Hd hset;have HB:Hid (Below w.heap.size w (w3.setCell ⟨w.heap.size,6+k,none⟩ (.int .u8 (e:Int)))):=Hd (hB3.setCell (Nat.le_refl w.heap.size) _);clear hset hg3 hlen3
   go_wp2
   go_roundw
   case rel=>exact⟨k+1,by omega,by go_num,by have:=HQ.out;have:=HE.out;have:=HS.out;go_num,HSET.out,HB.out⟩
   case measure=>simp[intOf];omega
  ·obtain rfl:k=len:=by omega
   have hx:l.take k=l:=List.take_of_length_le (by rw[hll.out];exact Nat.le_refl _);rw[hx] at hp ⊢;have hl:=rawOf_length kind k l (by rw[hll.out];exact hfit);have HW:=hh.below (Nat.le_refl _) hb;obtain⟨a4,ha4,hs4'⟩:=page_from w.heap.size 4 (by omega);obtain rfl:=ha4 (by omega);have hrow4:Bs wr (some ⟨w.heap.size,4,none⟩) 124 124 (bodyOf kind k l):=hp.rest hl (by omega) ha4;have hsum:=crcOn_lt 0 (bodyOf kind k l);have HPG:=Hd (show splice (rawOf kind k l) 0 (beBytes (crcOf (bodyOf kind k l)) 4)=pageOf kind l by rw[raw_sum _ _ _ _ (beBytes_length _ _),pageOf,hll.out]);have HPL:=Hd (pageOf_length kind l (by rw[hll.out];exact hfit));have hc:=crcOf_any (some ⟨w.heap.size,4,none⟩) 124 124 (bodyOf kind k l) wr.drew (hrow4.drewN 1) (show Half wr.drew from HW);change crcOf _<_ at hsum;generalize crcOf (bodyOf kind k l)=s at *;have hw64:(s:Int) % 18446744073709551616=(s:Int):=by omega
   have hw64':IntKind.u64.wrap (s:Int)=(s:Int):=by simp[IntKind.wrap,IntKind.signed,IntKind.bits];omega
   have hn:=num_four s wr.drew (by omega);have HP:=Hd (show Page wr.drew w.heap.size (rawOf kind k l) from hp);have HBB:=Hd (show Below w.heap.size w wr.drew from hb.drew);have HLT:=Hd (show w.heap.size<wr.drew.heap.size from(Array.getElem?_eq_some_iff.1 hp).1);clear hx hs4' hrow4 hh HW hp hb;generalize 128-lens l=e at *;go_wp2_with fail
   go_region_with (first|(go_at_call 69;refine hc.mono ?_;rintro e w2 ⟨rfl,rfl⟩)|(go_at_call 64;refine hn.mono ?_;rintro e w3 ⟨a5,cap5,rfl,hbs5,hb3⟩;have hp3:Page w3 w.heap.size (rawOf kind k l):=(hb3.block _ HLT.out).trans HP.out;obtain⟨w4,hcp,hpg4,hB4⟩:=copy_sum hp3 hl hbs5 (by omega) (by omega)))
   all_goals
    have hB:=hB4 _ _ (below_then HBB.out hb3) (Nat.le_refl _);rw[HPG.out] at hpg4;have hrow:=hpg4.row HPL.out;have hz:=hB.size;go_wp2_with fail;refine(bclone_any (some ⟨w.heap.size,0,none⟩) 128 128 (pageOf kind l) w4 hrow (by omega)).mono ?_;rintro e w5 ⟨v,rfl,hown,hb5⟩;rw[HPL.out] at hown;have hown:=own_baseC hown hz
    go_wp2
    go_ret2
    exact⟨v,rfl,hown,below_then hB hb5⟩
theorem pack_zero (a:Option Addr) (len cap:Nat) (w:World) :
 Calls Tryz.prog 172 #[.int .u8 0,.slice a len cap] w fun e w'=>e=.returned (.tuple #[.slice none 0 0,.int .i64 1])∧w=w':=by
 go_enter Tryz.func172,Tryz.ntmps172
 go_wp2
 go_ret2
 exact⟨rfl,rfl⟩
theorem pack_big (kind:UInt8) (a:Option Addr) (len cap:Nat) (l:List (List UInt8)) (w:World) (h:Bss w a len cap l) (hk:kind≠0) (hfit:122<len+lens l) (hb:len+lens l≤9223372036854775807) :
 Calls Tryz.prog 172 #[.int .u8 kind.toNat,.slice a len cap] w fun e w'=>e=.returned (.tuple #[.slice none 0 0,.int .i64 1])∧w=w':=by
 have hk':((kind.toNat:Int) == 0)=false:=by
  exact qad665f
 have hf2:decide ((122:Int)<(len:Int)+(lens l:Int))=true:=by simp;omega
 go_enter Tryz.func172,Tryz.ntmps172;go_wp2_with fail;refine(csize_any a len cap l w h hb).mono ?_;rintro e w' ⟨rfl,rfl⟩
 go_wp2
 go_ret2
 exact⟨rfl,rfl⟩
def fits (kind:UInt8) (l:List (List UInt8)):Bool:=kind != 0 && decide (l.length+lens l≤122)
def packV (kind:UInt8) (l:List (List UInt8)):List UInt8:=if fits kind l then pageOf kind l else []
def packE (kind:UInt8) (l:List (List UInt8)):Int:=if fits kind l then 0 else 1
def PackAny (w:World) (p:List UInt8) (er:Int) (e:Ending) (w':World):Prop:=
 ∃v,e=.returned (.tuple #[v,.int .i64 er])∧w'.ownsRow w.heap.size 5 1 v p.length ((toI p).map (Value.int .u8))∧Below w.heap.size w w'
theorem pack_any (kind:UInt8) (a:Option Addr) (len cap:Nat) (l:List (List UInt8)) (w:World) (h:Bss w a len cap l) (hh:Half w) (hb:len+lens l≤9223372036854775807) :
 Calls Tryz.prog 172 #[.int .u8 kind.toNat,.slice a len cap] w (PackAny w (packV kind l) (packE kind l)):=by
 have hl:=h.1
 by_cases hk:kind=0
 ·subst hk
  refine(pack_zero a len cap w).mono ?_;rintro e w' ⟨rfl,rfl⟩;exact⟨_,rfl,⟨rfl,.inl ⟨rfl,rfl⟩⟩,Below.refl _ _⟩
 ·by_cases hf:len+lens l≤122
  ·have hfit:fits kind l=true:=by simp[fits,hk,hl,hf]
   refine(pack_ok kind a len cap l w h hh hk hf).mono ?_;rintro e w' ⟨v,rfl,hown,hbw⟩;refine⟨v,by rw[packE,if_pos hfit],?_,hbw⟩;rw[packV,if_pos hfit,pageOf_length kind l (by omega)];exact hown
  ·have hfit:fits kind l=false:=by simp[fits,hl];omega
   refine(pack_big kind a len cap l w h hk (by omega) hb).mono ?_;rintro e w' ⟨rfl,rfl⟩;refine⟨_,by rw[packE,hfit];rfl,?_,Below.refl _ _⟩;rw[packV,hfit];exact⟨rfl,.inl ⟨rfl,rfl⟩⟩
open Go.RowKit
theorem Strs.below {w w':World} {a:Option Addr} {len cap:Nat} {l:List (List UInt8)} {B:Nat} (hB:w.heap.size≤B) (hb:Below B w w') (h:Strs w a len cap l):Strs w' a len cap l:=TabR.below hB hb h
theorem rsize_any (a:Option Addr) (len cap:Nat) (l:List (List UInt8)) (w:World) (h:Strs w a len cap l) (hb:len+lens l≤9223372036854775807) :
 Calls Tryz.prog 184 #[.slice a len cap] w fun e w'=>e=.returned (.int .i64 ((len+lens l:Nat):Int))∧w=w':=by
 have hll:=Hd h.1;have hm:=h.2.2.1;have hc:=h.2.1;unfold maxLen at hm;go_enter Tryz.func184,Tryz.ntmps184
 go_wp2
 go_loop [3,4] (fun s i=>∃k:Nat,k≤len∧i=.int .i64 k∧s=.int .i64 ((k+lens (l.take k):Nat):Int)) (fun _ i=>len-(intOf i).toNat)
 case atStart=>exact⟨0,Nat.zero_le _,rfl,by simp[lens]⟩
 case round=>
  obtain⟨k,hk,rfl,rfl⟩:=hrel
  by_cases hlt:k<len
  ·obtain⟨b,off,rfl,hbb,hcell⟩:=h.at hlt
   have hst:=lens_take_succ l k (by rw[hll.out];exact hlt);have hle:=lens_take_le l (k+1);have hsz:=strOf_size (l[k]?.getD []);generalize l[k]?.getD []=c at *;have hst2:k+1+lens (l.take (k+1))=k+lens (l.take k)+(c.length+1):=by omega
   have hle2:k+lens (l.take k)+(c.length+1)≤9223372036854775807:=by omega
   have H:=Hd hst2;clear hst hst2 hle;generalize k+lens (l.take k)=q at *;exact q931089
  ·obtain rfl:k=len:=by omega
   exact q7b2129
def StrPost (w:World) (p:List UInt8) (er:Int) (e:Ending) (w':World):Prop:=e=.returned (.tuple #[.string (strOf p),.int .i64 er])∧Below w.heap.size w w'
theorem conv_nat {P:Program} {W:World} {src e dst t:TypeId} (hs:P.underlying src=some (.slice e)) (he:P.underlying e=some (.int .u8)) (hd:P.underlying dst=some .string) (n:Nat) (hn:n<256) :
 (convert src dst (.slice (some ⟨W.heap.size,0,none⟩) 1 1)).run P (W.alloc (.cells #[.int .u8 (n:Int)] t))=.ok (.string (strOf [UInt8.ofNat n])) (W.alloc (.cells #[.int .u8 (n:Int)] t)):=by
 have h:=conv_one (W:=W) (t:=t) hs he hd (UInt8.ofNat n);have e2:(UInt8.ofNat n).toNat=n:=by rw[UInt8.toNat_ofNat'];omega
 rw[e2] at h;exact h
theorem conv_two {P:Program} {W:World} {src e dst t:TypeId} (hs:P.underlying src=some (.slice e)) (he:P.underlying e=some (.int .u8)) (hd:P.underlying dst=some .string) (b:UInt8) (n:Nat) (hn:n<256) :
 (convert src dst (.slice (some ⟨W.heap.size,0,none⟩) 2 2)).run P (W.alloc (.cells #[.int .u8 (b.toNat:Int),.int .u8 (n:Int)] t))=.ok (.string (strOf [b,UInt8.ofNat n])) (W.alloc (.cells #[.int .u8 (b.toNat:Int),.int .u8 (n:Int)] t)):=by
 have e2:(UInt8.ofNat n).toNat=n:=by rw[UInt8.toNat_ofNat'];omega
 have h:=conv_string hs he hd (show Bs _ _ _ _ [b,UInt8.ofNat n] from Row.made .u8 W t [(b.toNat:Int),((UInt8.ofNat n).toNat:Int)] rfl (by unfold maxLen;simp));rw[e2] at h;exact h
theorem rpack_ok (kind:UInt8) (a:Option Addr) (len cap:Nat) (l:List (List UInt8)) (w:World) (h:Strs w a len cap l) (hk:kind≠0) (hfit:len+lens l≤122) :
 Calls Tryz.prog 169 #[.int .u8 kind.toNat,.slice a len cap] w (StrPost w (pageOf kind l) 0):=by
 have hll:=Hd h.1;have hk':((kind.toNat:Int) == 0)=false:=by
  exact qad665f
 have hf2:decide ((122:Int)<(len:Int)+(lens l:Int))=false:=by simp;omega
 have hn8:(len:Int) % 256=(len:Int):=by omega
 go_enter Tryz.func169,Tryz.ntmps169;go_wp2_with fail;refine(rsize_any a len cap l w h (by omega)).mono ?_;rintro e w' ⟨rfl,rfl⟩
 go_wp2
 go_loopw [6,7,8] (fun s b i wr=>∃k:Nat,k≤len∧i=.int .i64 k∧s=.string (strOf (slotsOf 128 (l.take k)))∧b=.string (strOf (backOf (l.take k)))∧Below w.heap.size w wr) (fun _ _ i _=>len-(intOf i).toNat)
 case atStart=>exact⟨0,Nat.zero_le _,rfl,rfl,rfl,Below.refl _ _⟩
 case round=>
  obtain⟨k,hk,rfl,rfl,rfl,hb⟩:=hrel
  by_cases hlt:k<len
  ·obtain⟨b,off,rfl,hbb,hcell⟩:=(h.below (Nat.le_refl _) hb).at hlt
   have hm:=lens_take_le l (k+1);have hs:=lens_take_succ l k (by rw[hll.out];exact hlt);have hts:=take_snoc l k [] (by rw[hll.out];exact hlt);have hbk:backOf (l.take (k+1))=l[k]?.getD []++backOf (l.take k):=by rw[hts,backOf_append,backOf_one]
   have hsl:slotsOf 128 (l.take (k+1))=slotsOf 128 (l.take k)++[UInt8.ofNat (128-lens (l.take (k+1)))]:=by
    rw[hs,hts,slotsOf_append];simp[slotsOf,Nat.sub_sub]
   have hbl:=backOf_length (l.take (k+1));have hbl0:=backOf_length (l.take k);have hsl0:=slotsOf_length (l.take k) 128;rw[List.length_take] at hsl0;obtain⟨e,he⟩:∃e,e=128-lens (l.take (k+1)):=⟨_,rfl⟩
   rw[←he] at hsl;have he8:(128:Int)-(lens (l.take (k+1)):Int)=(e:Int):=by omega
   have he6:e≤128:=by omega
   have h256:(e:Int) % 256=(e:Int):=by omega
   have hm1:lens (l.take (k+1))≤122:=by omega
   generalize l[k]?.getD []=c at *;generalize backOf (l.take k)=bk at *;generalize hbe:backOf (l.take (k+1))=bk1 at *;generalize slotsOf 128 (l.take k)=sl at *;generalize hse:slotsOf 128 (l.take (k+1))=sl1 at *;have HBE:=Hd hbe;have HSE:=Hd hse;clear hbe hse;have hcl:c.length+bk.length≤122:=by omega
   have hsz1:(strOf bk1).size=lens (l.take (k+1)):=by rw[strOf_size];exact hbl
   have hap:=strOf_append c bk;rw[←hbk] at hap;have hbnd:(strOf c).size+(strOf bk).size≤9223372036854775807:=by rw[strOf_size,strOf_size];omega
   have hap2:=strOf_append sl [UInt8.ofNat e];rw[←hsl] at hap2;have hbnd2:(strOf sl).size+(strOf [UInt8.ofNat e]).size≤9223372036854775807:=by rw[strOf_size,strOf_size];simp;omega
   have hcv:=conv_nat (W:=wr) (t:=5) Tryz.underlying42 Tryz.underlying5 Tryz.underlying9 e (by omega);have HB:=Hd (hb.alloc hb.size (.cells #[.int .u8 (e:Int)] 5));clear hs hts hbk hsl hbl hbl0 hsl0 he hm hb;generalize lens (l.take (k+1))=q at *;generalize UInt8.ofNat e=ub at *
   go_wp2
   go_roundw
   case rel=>exact⟨k+1,by omega,by go_num,by rw[HSE.out],by rw[HBE.out],HB.out⟩
   case measure=>simp[intOf];omega
  ·obtain rfl:k=len:=by omega
   have hx:l.take k=l:=List.take_of_length_le (by rw[hll.out];exact Nat.le_refl _);rw[hx];have hsl:=slotsOf_length l 128;have hbl:=backOf_length l;rw[hll.out] at hsl;have HPG:=Hd (show pageOf kind l=beBytes (crcOf (bodyOf kind k l)) 4++bodyOf kind k l by rw[pageOf,hll.out]);have hbody:bodyOf kind k l=[kind,UInt8.ofNat k]++slotsOf 128 l++(List.replicate (122-k-lens l) 0++backOf l):=by rw[bodyOf,hll.out];simp
   have hlb:=bodyOf_length kind k l (by rw[hll.out];exact hfit);generalize bodyOf kind k l=bd at *;generalize slotsOf 128 l=sl at *;generalize backOf l=bk at *;obtain⟨z,hz⟩:∃z,z=122-k-lens l:=⟨_,rfl⟩
   rw[←hz] at hbody;obtain⟨hd,hhd⟩:∃hd,hd=[kind,UInt8.ofNat k]++sl:=⟨_,rfl⟩
   rw[←hhd] at hbody;have hap1:=strOf_append [kind,UInt8.ofNat k] sl;rw[←hhd] at hap1;have hap2:=strOf_append (List.replicate z 0) bk;obtain⟨zb,hzb⟩:∃zb,zb=List.replicate z 0++bk:=⟨_,rfl⟩
   rw[←hzb] at hbody hap2;have hap3:=strOf_append hd zb;rw[←hbody] at hap3;have hcv:=conv_two (W:=wr) (t:=5) Tryz.underlying42 Tryz.underlying5 Tryz.underlying9 kind k (by omega);obtain⟨s1,hs1,hs1'⟩:∃s1,(strOf hd).size=s1∧s1=2+k:=⟨_,rfl,by rw[strOf_size,hhd];simp[hsl];omega⟩
   obtain⟨s2,hs2,hs2'⟩:∃s2,(strOf bk).size=s2∧s2=lens l:=⟨_,rfl,by rw[strOf_size];exact hbl⟩
   have hz2:(124:Int)-(s1:Int)-(s2:Int)=(z:Int):=by omega
   have hz3:z≤122:=by omega
   have hs12:s1≤124∧s2≤122:=by omega
   have hbn1:(strOf [kind,UInt8.ofNat k]).size+(strOf sl).size≤9223372036854775807:=by rw[strOf_size,strOf_size];simp;omega
   have hbn2:(strOf (List.replicate z (0:UInt8))).size+(strOf bk).size≤9223372036854775807:=by rw[strOf_size,hs2];simp;omega
   have hbn3:(strOf hd).size+(strOf zb).size≤9223372036854775807:=by rw[hs1,strOf_size,hzb];simp;omega
   obtain⟨rz,hrz⟩:∃rz,rz=List.replicate z (0:UInt8):=⟨_,rfl⟩
   rw[←hrz] at hap2 hbn2;have HRZ:=Hd hrz;have HLB:=Hd hlb;obtain⟨i0,hi,hz0,hz1,hz2'⟩:=info_parts info_u8;have hB2:=hb.alloc hb.size (.cells #[.int .u8 (kind.toNat:Int),.int .u8 (k:Int)] 5);have HSZ:=Hd hb.size;generalize hU:UInt8.ofNat k=ub at *;clear hU hhd hzb hbody hx hz hlb hrz hsl hbl hs1' hs2'
   go_wp2_with (at_make;refine wpList_make_full _ rfl _ _ 42 rfl w.heap.size 5 i0 _ 1 Tryz.underlying42 hi hz0 hz1 .i64 .i64 _ _ z rfl rfl rfl rfl (by rw[hz2'];omega) (by unfold maxLen;omega) (by have:=HSZ.out;simp;omega) ?_)
   intro w2 hown hg;have hown':w2.ownsRow w.heap.size 5 1 (.slice (some ⟨wr.heap.size+1,0,none⟩) z z) z ((toI rz).map (Value.int .u8)):=by
    simp only[made_list] at hown;rw[HRZ.out];simpa[toI] using hown
   have hcv2:=conv_string Tryz.underlying42 Tryz.underlying5 Tryz.underlying9 (Bs.own hown');have HB3:=Hd (hB2.grown hg (by have:=HSZ.out;simp;omega) (fun k e=>by cases e));clear hown hown' hg hcv;have hbl:bd.length≤9223372036854775807:=by rw[HLB.out];omega
   go_wp2_with fail;refine(refOf_any bd w2 hbl).mono ?_;rintro e w3 ⟨rfl,rfl⟩;have hsum:=crcOn_lt 0 bd;change crcOf bd<_ at hsum;generalize hS:crcOf bd=s at *;have HS:=Hd hS;clear hS;have hw64:(s:Int) % 18446744073709551616=(s:Int):=by omega
   go_wp2_with fail;refine(refNum_ok s 4 w2 (by omega) (by omega) (by omega)).mono ?_;rintro e w4 ⟨rfl,hb4⟩;have hap4:=strOf_append (beBytes s 4) bd;have hbn4:(strOf (beBytes s 4)).size+(strOf bd).size≤9223372036854775807:=by rw[strOf_size,strOf_size,beBytes_length,HLB.out];omega
   have HPG2:=Hd (show pageOf kind l=beBytes s 4++bd from HPG.out);generalize beBytes s 4=s4 at *;generalize s4++bd=pg at *
   go_wp2
   go_ret2
   exact⟨by rw[HPG2.out];rfl,below_then HB3.out hb4⟩
theorem rpack_zero (a:Option Addr) (len cap:Nat) (w:World) :
 Calls Tryz.prog 169 #[.int .u8 0,.slice a len cap] w fun e w'=>e=.returned (.tuple #[.string (strOf []),.int .i64 1])∧w=w':=by
 go_enter Tryz.func169,Tryz.ntmps169
 go_wp2
 go_ret2
 exact⟨rfl,rfl⟩
theorem rpack_big (kind:UInt8) (a:Option Addr) (len cap:Nat) (l:List (List UInt8)) (w:World) (h:Strs w a len cap l) (hk:kind≠0) (hfit:122<len+lens l) (hb:len+lens l≤9223372036854775807) :
 Calls Tryz.prog 169 #[.int .u8 kind.toNat,.slice a len cap] w fun e w'=>e=.returned (.tuple #[.string (strOf []),.int .i64 1])∧w=w':=by
 have hk':((kind.toNat:Int) == 0)=false:=by
  exact qad665f
 have hf2:decide ((122:Int)<(len:Int)+(lens l:Int))=true:=by simp;omega
 go_enter Tryz.func169,Tryz.ntmps169;go_wp2_with fail;refine(rsize_any a len cap l w h hb).mono ?_;rintro e w' ⟨rfl,rfl⟩
 go_wp2
 go_ret2
 exact⟨rfl,rfl⟩
theorem rpack_any (kind:UInt8) (a:Option Addr) (len cap:Nat) (l:List (List UInt8)) (w:World) (h:Strs w a len cap l) (hb:len+lens l≤9223372036854775807) :
 Calls Tryz.prog 169 #[.int .u8 kind.toNat,.slice a len cap] w (StrPost w (packV kind l) (packE kind l)):=by
 have hl:=h.1
 by_cases hk:kind=0
 ·subst hk
  refine(rpack_zero a len cap w).mono ?_;rintro e w' ⟨rfl,rfl⟩;exact⟨rfl,Below.refl _ _⟩
 ·by_cases hf:len+lens l≤122
  ·have hfit:fits kind l=true:=by simp[fits,hk,hl,hf]
   rw[packV,packE,if_pos hfit,if_pos hfit];exact rpack_ok kind a len cap l w h hk hf
  ·have hfit:fits kind l=false:=by simp[fits,hl];omega
   rw[packV,packE,hfit];refine(rpack_big kind a len cap l w h hk (by omega) hb).mono ?_;rintro e w' ⟨rfl,rfl⟩;exact⟨rfl,Below.refl _ _⟩
open Go.RowKit
theorem wpList_append_one {P:Program} {w:World} {ops:Array Oper} {rest:List Oper} {o:Oper} {act:Act} {Q:Exit→Act→World→Prop} (hgd:o.guard=none) (s x:Operand) (t:TypeId)
 (ho:o.op=.call { callee:=.builtin .append,args := #[s,x],argTypes := #[t,t] })
 (base:Nat) (e:TypeId) (i:TypeInfo) (z:Value) (bytes:Nat) (ht:P.underlying t=some (.slice e)) (hi:P.info? e=some i) (hz:i.zero=some z)
 (hsize:i.size=1) (hby:i.bytes=bytes) (hzs:z.cells.size=1)
 (v:Value) (n:Nat) (xs:List Value) (hs:act.eval s=v) (hown:w.ownsRow base e 1 v n xs)
 (b:Nat) (hx:act.eval x=.slice (some ⟨b,0,none⟩) 1 1) (u:Value) (hu:w.cell? ⟨b,0,none⟩=some u) (h1:u.oneCell'=true)
 (h63:n+1≤maxLen) (hbytes:(n+1)*bytes≤140737488355328) (hbase:base≤w.heap.size)
 (h:∀v' w',w'.ownsRow base e 1 v' (n+1) (xs++[u])→w.grownBy w' v.ownBlock→wpList P ops Q rest (act.put o.dst v') w'):wpList P ops Q (o::rest) act w:=by
 refine wpList_append_own w hgd s x t ho base e i z 1 bytes ht hi hz hsize hby hzs (by decide) v n xs hs hown ⟨b,0,none⟩ 1 1 [u] hx rfl ?_ (fun y hy=>by
  obtain rfl:=List.mem_singleton.1 hy;exact h1) h63 hbytes hbase fun v' w' h5 h6 _=>h v' w' h5 h6
 intro j y hj
 match j,hj with
 | 0,hj=>cases hj;simpa[Addr.add] using hu
 | j+1,hj=>simp at hj
def sv (c:List UInt8):Value:=.string (strOf c)
def OwnStrs (w:World) (l:List (List UInt8)) (e:Ending) (w':World):Prop:=
 ∃v,e=.returned v∧w'.ownsRow w.heap.size 9 1 v l.length (l.map sv)∧Below w.heap.size w w'
theorem Strs.of_own {w:World} {base:Nat} {v:Value} {n:Nat} {l:List (List UInt8)} (h:w.ownsRow base 9 1 v n (l.map sv)) :
 ∃a cap,v=.slice a n cap∧Strs w a n cap l:=by
 obtain⟨h1,h2⟩:=h;simp only[List.length_map,Nat.mul_one] at h1
 rcases h2 with⟨rfl,rfl⟩|⟨g,cap,cur,rfl,hb,hg,hn,hm,hc,ht⟩
 ·exact⟨none,0,rfl,h1,Nat.le_refl _,by unfold maxLen;omega,fun _=>rfl,.inl rfl⟩
 ·refine⟨_,cap,rfl,h1,hn,hm,(fun h=>by cases h),.inr ⟨g,0,rfl,(Array.getElem?_eq_some_iff.1 hg).1,fun i y hy=>⟨[sv y],rfl,rfl,fun j u hu=>?_⟩⟩⟩
  have hi:=(List.getElem?_eq_some_iff.1 hy).1
  match j,hu with
  | 0,hu=>
   cases hu;simp only[World.cell?,hg,Nat.zero_add,Nat.mul_one,Nat.add_zero];have e:(cur.toList.take (n*1))[i]? = cur.toList[i]? := List.getElem?_take_of_lt (by omega);rw[ht] at e;rw[←Array.getElem?_toList,←e];simp[hy]
  | j+1,hu=>simp at hu
theorem info_str:(Tryz.prog.info? 9).map (fun i=>(i.zero,i.size,i.bytes))=some (some (.string ByteArray.empty),1,16):=by kernel_rfl
open Go.RowKit
theorem take_any (a:Option Addr) (len cap:Nat) (l:List UInt8) (w:World) (h:Bs w a len cap l) (hreach:len≤140737488351232) :
 Calls Tryz.prog 56 #[.slice a len cap] w fun e w'=>e=.returned (.pointer (some ⟨w'.heap.size-1,0,none⟩))∧Tk w' (w'.heap.size-1) ⟨l,0⟩∧w.heap.size≤w'.heap.size-1∧Below w.heap.size w w':=by
 have hll:=Hd h.len;go_enter Tryz.func56,Tryz.ntmps56;go_wp2_with fail;refine(clone_any a len cap l w h hreach).mono ?_;rintro e w1 ⟨v,rfl,hown,hb⟩;obtain⟨a2,cap2,rfl,hbs⟩:=Bs.of_own hown;clear hown
 go_wp2
 go_ret;have hs:=hb.size;refine⟨by simp,⟨a2,cap2,?_,hbs.below (Nat.le_refl _) ((Below.refl _ _).alloc (Nat.le_refl _) _)⟩,by simp;omega,hb.alloc hs _⟩;have:=World.alloc_heap_new w1 (.cells #[.slice a2 l.length cap2,.int .i64 0] 231);simpa using this
theorem some_u64_err (t:Nat) (s:TSt) (n:Int) (w:World) (h:Tk w t s) (he:s.e≠0) :
 Calls Tryz.prog 105 #[.pointer (some ⟨t,0,none⟩),.int .i64 n,.func (.func 106) #[] #[]] w fun e w'=>e=.returned (.int .u64 0)∧w=w':=by
 have zm:=Mk.i 693622;exact q7f39ad
theorem some_u64_any (t:Nat) (s:TSt) (n:Nat) (w:World) (h:Tk w t s) (h8:n≤8) (hreach:s.l.length≤140737488351232) :
 Calls Tryz.prog 105 #[.pointer (some ⟨t,0,none⟩),.int .i64 n,.func (.func 106) #[] #[]] w (TkPost w t (fun _ v=>v=.int .u64 (beVal (takeF s n).1)) (takeF s n).2):=by
 by_cases he:s.e≠0
 ·refine(some_u64_err t s n w h he).mono ?_
  exact q68dd29
 ·obtain⟨sl,se⟩:=s
  have zm:=Mk.i 542448;exact q0fdeb7
theorem some_str_err (t:Nat) (s:TSt) (n:Int) (w:World) (h:Tk w t s) (he:s.e≠0) :
 Calls Tryz.prog 107 #[.pointer (some ⟨t,0,none⟩),.int .i64 n,.func (.func 108) #[] #[]] w fun e w'=>e=.returned (.string (strOf []))∧w=w':=by
 have zm:=Mk.i 848397;exact q7f39ad
theorem some_str_any (t:Nat) (s:TSt) (n:Nat) (w:World) (h:Tk w t s) (hreach:s.l.length≤140737488351232) :
 Calls Tryz.prog 107 #[.pointer (some ⟨t,0,none⟩),.int .i64 n,.func (.func 108) #[] #[]] w (TkPost w t (fun _ v=>v=.string (strOf (takeF s n).1)) (takeF s n).2):=by
 by_cases he:s.e≠0
 ·refine(some_str_err t s n w h he).mono ?_
  exact q68dd29
 ·obtain⟨sl,se⟩:=s
  have zm:=Mk.i 477566;exact q0fdeb7
theorem some_bytes_err (t:Nat) (s:TSt) (n:Int) (w:World) (h:Tk w t s) (he:s.e≠0) :
 Calls Tryz.prog 208 #[.pointer (some ⟨t,0,none⟩),.int .i64 n,.func (.func 104) #[] #[]] w fun e w'=>e=.returned (.slice none 0 0)∧w=w':=by
 have zm:=Mk.i 127884;exact q7f39ad
theorem some_bytes_any (t:Nat) (s:TSt) (n:Nat) (w:World) (h:Tk w t s) (hreach:s.l.length≤140737488351232) :
 Calls Tryz.prog 208 #[.pointer (some ⟨t,0,none⟩),.int .i64 n,.func (.func 104) #[] #[]] w (TkPost w t (fun w' v=>w'.ownsRow w.heap.size 5 1 v (takeF s n).1.length ((toI (takeF s n).1).map (Value.int .u8))) (takeF s n).2):=by
 by_cases he:s.e≠0
 ·refine(some_bytes_err t s n w h he).mono ?_
  rintro e w' ⟨rfl,rfl⟩;refine⟨_,rfl,?_,grown_below (Below.refl _ _) _,?_⟩
  ·simp only[takeF,if_pos he];exact⟨rfl,.inl ⟨rfl,rfl⟩⟩
  ·simp only[takeF,if_pos he];exact h
 ·obtain⟨sl,se⟩:=s
  have zm:=Mk.i 624199;exact q0fdeb7
open Go.RowKit
theorem tErr_any (t:Nat) (s:TSt) (w:World) (h:Tk w t s) :
 Calls Tryz.prog 109 #[.pointer (some ⟨t,0,none⟩)] w fun e w'=>e=.returned (.int .i64 s.e)∧w=w':=by
 obtain⟨a,cap,hblk,hbs⟩:=h;have hc1:w.cell? ⟨t,1,none⟩=some (.int .i64 s.e):=by simp[World.cell?,hblk]
 go_enter Tryz.func109,Tryz.ntmps109;exact q72c811
theorem tDone_any (t:Nat) (s:TSt) (w:World) (h:Tk w t s) :
 Calls Tryz.prog 59 #[.pointer (some ⟨t,0,none⟩)] w fun e w'=>e=.returned (.int .i64 (tDone s))∧w=w':=by
 have hE:=tErr_any t s w h;obtain⟨a,cap,hblk,hbs⟩:=h;have hc0:w.cell? ⟨t,0,none⟩=some (.slice a s.l.length cap):=by simp[World.cell?,hblk]
 have hm:=hbs.cap;unfold maxLen at hm
 by_cases he:s.e=0
 ·have hd:tDone s=if s.l.length=0 then 0 else 11:=by simp[tDone,he]
  rw[he] at hE;have hne':((s.l.length:Int) == 0)=decide (s.l.length=0):=by
   by_cases h0:s.l.length=0<;>simp[h0]
  by_cases h0:s.l.length=0
  ·rw[if_pos h0] at hd
   have HD:=Hd hd;have hz:((s.l.length:Int) == 0)=true:=by simp[h0]
   clear hd h0 hne' he;exact q35e021
  ·rw[if_neg h0] at hd
   have HD:=Hd hd;have hz:((s.l.length:Int) == 0)=false:=by simp[h0]
   clear hd h0 hne' he;exact q35e021
 ·have HD:=Hd (show tDone s=s.e by simp[tDone,he])
  have hne:(s.e == 0)=false:=by simpa using he
  have hne':(s.e != 0)=true:=by simpa using he
  clear he;generalize s.e=er at *;exact q35e021
theorem tNum_any (t:Nat) (s:TSt) (size:Int) (w:World) (h:Tk w t s) (hreach:s.l.length≤140737488351232) :
 Calls Tryz.prog 57 #[.pointer (some ⟨t,0,none⟩),.int .i64 size] w (TkPost w t (fun _ v=>v=.int .u64 ((tNum s size).1:Int)) (tNum s size).2):=by
 have hT:=h;obtain⟨a,cap,hblk,hbs⟩:=h;have hc1:w.cell? ⟨t,1,none⟩=some (.int .i64 s.e):=by simp[World.cell?,hblk]
 have hf1:w.frozen? ⟨t,1,none⟩=false:=by simp[World.frozen?,hblk]
 by_cases he:s.e=0
 ·by_cases hsz:size<1∨8<size
  ·have hr:tNum s size=(0,{ s with e:=1 }):=by simp[tNum,he,hsz]
   rw[hr];have hnew:Tk (w.setCell ⟨t,1,none⟩ (.int .i64 1)) t { s with e:=1 }:=
    ⟨a,cap,heap_setCell_at 1 (.int .i64 1) hblk,hbs.grown (grown_setCell _ _ _) (bs_ne hblk hbs)⟩
   have hgr:=grown_setCell w ⟨t,1,none⟩ (.int .i64 1);rw[he] at hc1;clear hr hblk hbs hT he
   rcases hsz with hsz|hsz
   ·go_enter Tryz.func57,Tryz.ntmps57
    exact q11f35a
   ·have hsz':¬size<1:=by omega
    go_enter Tryz.func57,Tryz.ntmps57;exact q11f35a
  ·obtain⟨n,rfl⟩:=Int.eq_ofNat_of_zero_le (show 0≤size by omega)
   have hr:tNum s (n:Int)=(beVal (takeF s n).1,(takeF s n).2):=by simp only[tNum];rw[if_neg (fun h=>hsz h.2)];rfl
   rw[hr];have hs1:¬(n:Int)<1:=by omega
   have hs2:¬(8:Int)<(n:Int):=by omega
   have hcall:=some_u64_any t s n w hT (by omega) hreach;rw[he] at hc1;clear hr hblk hbs hT he hsz;go_enter Tryz.func57,Tryz.ntmps57;go_wp2_with fail;refine hcall.mono ?_;rintro e w' ⟨v,rfl,rfl,hgr,hnew⟩;exact q11f35a
 ·have hr:tNum s size=(0,s):=by simp[tNum,takeF,he,beVal_nil]
  rw[hr];have hcall:=some_u64_err t s size w hT he;have hne:(s.e == 0)=false:=by simpa using he
  clear hr hblk hbs he;generalize s.e=er at *;go_enter Tryz.func57,Tryz.ntmps57;go_wp2_with fail;refine hcall.mono ?_;rintro e w' ⟨rfl,rfl⟩
  go_wp2
  go_ret;exact⟨_,rfl,rfl,grown_below (Below.refl _ _) _,hT⟩
theorem takeF_len (s:TSt) (n:Nat):(takeF s n).2.l.length≤s.l.length:=by
 unfold takeF;split
 ·exact Nat.le_refl _
 ·split
  ·exact Nat.le_refl _
  ·simp
theorem tNum_len (s:TSt) (size:Int):(tNum s size).2.l.length≤s.l.length:=by
 unfold tNum;split
 ·exact Nat.le_refl _
 ·exact takeF_len _ _
theorem takeF_le (s:TSt) (n:Nat):(takeF s n).1.length≤n:=by
 unfold takeF;split
 ·simp
 ·split
  ·simp
  ·simp;omega
theorem tNum_lt (s:TSt) (k:Nat):(tNum s (k:Int)).1<256 ^ k:=by
 unfold tNum;split
 ·exact Nat.pow_pos (by decide)
 ·exact Nat.lt_of_lt_of_le (beVal_lt _) (Nat.pow_le_pow_right (by decide) (takeF_le _ _))
theorem tText_any (t:Nat) (s:TSt) (w:World) (h:Tk w t s) (hreach:s.l.length≤140737488351232) :
 Calls Tryz.prog 58 #[.pointer (some ⟨t,0,none⟩)] w (TkPost w t (fun _ v=>v=.string (strOf (tText s).1)) (tText s).2):=by
 have hlt:=tNum_lt s 1;have hlen:=tNum_len s 1;have hcall:=tNum_any t s 1 w h hreach;obtain⟨n,s1,hs⟩:∃n s1,tNum s 1=(n,s1):=⟨_,_,rfl⟩
 have hr:tText s=takeF s1 n:=by simp[tText,hs]
 have hs':tNum s ((1:Nat):Int)=(n,s1):=hs;rw[hs] at hcall hlen;rw[hs'] at hlt;rw[hr];dsimp only at hlt hlen hcall;clear hr hs hs';go_enter Tryz.func58,Tryz.ntmps58;go_wp2_with fail;refine hcall.mono ?_;rintro e w1 ⟨v,rfl,rfl,hgr,hnew⟩;go_wp2_with fail;refine(some_str_any t s1 n w1 hnew (by omega)).mono ?_;rintro e w2 ⟨v,rfl,rfl,hgr2,hnew2⟩
 go_wp2
 go_ret;exact⟨_,rfl,rfl,grown_trans hgr hgr2,hnew2⟩
theorem tRest_any (t:Nat) (s:TSt) (w:World) (h:Tk w t s) (hreach:s.l.length≤140737488351232) :
 Calls Tryz.prog 199 #[.pointer (some ⟨t,0,none⟩)] w (TkPost w t (fun w' v=>w'.ownsRow w.heap.size 5 1 v (tRest s).1.length ((toI (tRest s).1).map (Value.int .u8))) (tRest s).2):=by
 have hcall:=some_bytes_any t s s.l.length w h hreach;obtain⟨a,cap,hblk,hbs⟩:=h;have hc0:w.cell? ⟨t,0,none⟩=some (.slice a s.l.length cap):=by simp[World.cell?,hblk]
 clear hblk hbs;go_enter Tryz.func199,Tryz.ntmps199;go_wp2_with fail;refine hcall.mono ?_;rintro e w2 ⟨v,rfl,hown,hgr2,hnew2⟩
 go_wp2
 go_ret;exact⟨_,rfl,hown,hgr2,hnew2⟩
open Go.RowKit
def slotS (b:List UInt8) (i:Nat):Nat:=(b[6+i]?.getD 0).toNat
def endS (b:List UInt8):Nat→Nat
 | 0=>128
 | i+1=>slotS b i
def okSC (b:List UInt8) (n:Nat):Bool:=(List.range n).all fun i=>decide (slotS b i≤endS b i)
def cellS (b:List UInt8) (i:Nat):List UInt8:=(b.drop (slotS b i)).take (endS b i-slotS b i)
def cutS (b:List UInt8) (n:Nat):List (List UInt8):=(List.range n).map (cellS b)
def kindS (b:List UInt8):UInt8:=b[4]?.getD 0
def numS (b:List UInt8):Nat:=(b[5]?.getD 0).toNat
def unpB (b:List UInt8):Bool:=okSC b (min (numS b) 122) && (fits (kindS b) (cutS b (min (numS b) 122)) && pageOf (kindS b) (cutS b (min (numS b) 122)) == b)
def unpE (b:List UInt8):Int:=if b.length≠128 then 1 else if beVal (b.take 4)≠crcOf (b.drop 4) then 12 else if unpB b then 0 else 11
def unpK (b:List UInt8):UInt8:=if unpE b=0 then kindS b else 0
def unpL (b:List UInt8):List (List UInt8):=if unpE b=0 then cutS b (min (numS b) 122) else []
theorem okS_succ (b:List UInt8) (n:Nat):okSC b (n+1)=(okSC b n && decide (slotS b n≤endS b n)):=by
 simp[okSC,List.range_succ]
theorem cutS_succ (b:List UInt8) (n:Nat):cutS b (n+1)=cutS b n++[cellS b n]:=by
 simp[cutS,List.range_succ]
theorem cutS_length (b:List UInt8) (n:Nat):(cutS b n).length=n:=by simp[cutS]
theorem slotS_lt (b:List UInt8) (i:Nat):slotS b i<256:=(b[6+i]?.getD 0).toNat_lt
theorem okS_end (b:List UInt8) (n:Nat) (h:okSC b n=true):endS b n≤128:=by
 induction n with
 | zero=>simp[endS]
 | succ n ih=>
  rw[okS_succ,Bool.and_eq_true,decide_eq_true_eq] at h;have:=ih h.1;rw[show endS b (n+1)=slotS b n from rfl];omega
theorem okS_mono (b:List UInt8) {m n:Nat} (h:okSC b m=false) (hmn:m≤n):okSC b n=false:=by
 rw[okSC,List.all_eq_false] at h ⊢;obtain⟨x,hx,hx2⟩:=h;exact⟨x,by simp at hx ⊢;omega,hx2⟩
theorem cellS_length (b:List UInt8) (n:Nat) (hb:b.length=128) (h:okSC b (n+1)=true):(cellS b n).length=endS b n-slotS b n:=by
 have h1:=okS_end b n (by rw[okS_succ,Bool.and_eq_true] at h;exact h.1);simp[cellS];omega
theorem cutS_lens (b:List UInt8) (n:Nat) (hb:b.length=128) (h:okSC b n=true):lens (cutS b n)=128-endS b n:=by
 induction n with
 | zero=>simp[cutS,lens,endS]
 | succ n ih=>
  have h0:=h;rw[okS_succ,Bool.and_eq_true,decide_eq_true_eq] at h;have h1:=okS_end b n h.1;rw[cutS_succ,lens_append,lens_one,ih h.1,cellS_length b n hb h0,show endS b (n+1)=slotS b n from rfl];omega
def OwnBss (w:World) (base:Nat) (v:Value) (l:List (List UInt8)):Prop:=
 ∃vs,w.ownsRow base 42 1 v l.length vs∧vs.length=l.length∧∀(i:Nat) (c:List UInt8),l[i]? = some c→∃u,vs[i]? = some u∧w.ownsRow base 5 1 u c.length ((toI c).map (Value.int .u8))
theorem own_types {w:World} {b1 b2 s1 s2 n1 n2:Nat} {e1 e2:TypeId} {v1 v2:Value} {xs1 xs2:List Value} (h1:w.ownsRow b1 e1 s1 v1 n1 xs1) (h2:w.ownsRow b2 e2 s2 v2 n2 xs2) (hne:e1≠e2):v1.ownBlock=none∨v1.ownBlock≠v2.ownBlock:=by
 rcases h1.2 with⟨rfl,rfl⟩|⟨g,cap,cur,rfl,_,hg,_⟩
 ·exact .inl rfl
 ·right
  rcases h2.2 with⟨rfl,rfl⟩|⟨g2,cap2,cur2,rfl,_,hg2,_⟩
  ·intro e;cases e
  ·intro e
   have e':g=g2:=by simpa[Value.ownBlock] using e
   subst e';rw[hg] at hg2;cases hg2;exact hne rfl
theorem own_below {w w':World} {base:Nat} {e:TypeId} {size:Nat} {v:Value} {n:Nat} {xs:List Value} {B:Nat} (h:w.ownsRow base e size v n xs) (hB:w.heap.size≤B) (hb:Below B w w'):w'.ownsRow base e size v n xs:=by
 refine⟨h.1,h.2.imp id fun⟨g,cap,cur,e1,hg,hh,r⟩=>⟨g,cap,cur,e1,hg,?_,r⟩⟩;rw[hb.block g (Nat.lt_of_lt_of_le (Array.getElem?_eq_some_iff.1 hh).1 hB)];exact hh
theorem OwnBss.nil (w:World) (base:Nat):OwnBss w base (.slice none 0 0) []:=⟨[],World.ownsRow_nil _ _ _ _,rfl,fun i c h=>by simp at h⟩
theorem OwnBss.below {w w':World} {base:Nat} {v:Value} {l:List (List UInt8)} {B:Nat} (h:OwnBss w base v l) (hB:w.heap.size≤B) (hb:Below B w w'):OwnBss w' base v l:=by
 obtain⟨vs,h1,h2,h3⟩:=h;exact⟨vs,own_below h1 hB hb,h2,fun i c hc=>by obtain⟨u,e1,e2⟩:=h3 i c hc;exact⟨u,e1,own_below e2 hB hb⟩⟩
theorem OwnBss.snoc {w w':World} {base:Nat} {v v' u:Value} {n:Nat} {l:List (List UInt8)} {c:List UInt8} {vs:List Value} (h1:w.ownsRow base 42 1 v n vs) (hn:n=l.length)
 (h2:vs.length=l.length) (h3:∀(i:Nat) (c:List UInt8),l[i]? = some c→∃u,vs[i]? = some u∧w.ownsRow base 5 1 u c.length ((toI c).map (Value.int .u8)))
 (hu:w.ownsRow base 5 1 u c.length ((toI c).map (Value.int .u8))) (hg:w.grownBy w' v.ownBlock) (h1':w'.ownsRow base 42 1 v' (n+1) (vs++[u])):OwnBss w' base v' (l++[c]):=by
 refine⟨vs++[u],by rw[List.length_append,←hn];exact h1',by simp[h2],fun i d hd=>?_⟩
 by_cases hi:i<l.length
 ·rw[List.getElem?_append_left hi] at hd
  obtain⟨x,e1,e2⟩:=h3 i d hd;exact⟨x,by rw[List.getElem?_append_left (by omega)];exact e1,e2.kept hg (own_types e2 h1 (by decide))⟩
 ·have hlen:=(List.getElem?_eq_some_iff.1 hd).1
  simp at hlen;obtain rfl:i=l.length:=by omega
  rw[List.getElem?_append_right (Nat.le_refl _),Nat.sub_self] at hd;cases hd;exact⟨u,by rw[List.getElem?_append_right (by omega),h2,Nat.sub_self];rfl,hu.kept hg (own_types hu h1 (by decide))⟩
theorem OwnBss.bss {w:World} {base:Nat} {v:Value} {l:List (List UInt8)} (h:OwnBss w base v l):∃a cap,v=.slice a l.length cap∧Bss w a l.length cap l:=by
 obtain⟨vs,⟨h1,h2⟩,h3,h4⟩:=h;simp only[Nat.mul_one] at h1
 rcases h2 with⟨rfl,h0⟩|⟨g,cap,cur,rfl,hb,hg,hn,hm,hc,ht⟩
 ·rw[h0]
  exact⟨none,0,rfl,h0,Nat.le_refl _,by unfold maxLen;omega,fun _=>rfl,.inl rfl⟩
 ·refine⟨_,cap,rfl,rfl,hn,hm,(fun h=>by cases h),.inr ⟨g,0,rfl,(Array.getElem?_eq_some_iff.1 hg).1,fun i y hy=>?_⟩⟩
  obtain⟨u,e1,e2⟩:=h4 i y hy;obtain⟨a,cp,rfl,hbs⟩:=Bs.of_own e2;refine⟨[.slice a y.length cp],rfl,⟨a,_,cp,rfl,hbs⟩,fun j x hx=>?_⟩;have hi:=(List.getElem?_eq_some_iff.1 hy).1
  match j,hx with
  | 0,hx=>
   cases hx;simp only[World.cell?,hg,Nat.zero_add,Nat.mul_one,Nat.add_zero];have e:(cur.toList.take (l.length*1))[i]? = cur.toList[i]? := List.getElem?_take_of_lt (by omega);rw[ht] at e;rw[←Array.getElem?_toList,←e];exact e1
  | j+1,hx=>simp at hx
theorem Bs.sub {w:World} {a:Option Addr} {len cap:Nat} {L:List UInt8} (h:Bs w a len cap L) (l r m:Nat) (h1:l≤r) (h2:r≤len) (h3:r≤m) (h4:m≤cap) :
 Bs w (if m=l then a else a.map (·.add (l*1))) (r-l) (m-l) ((L.drop l).take (r-l)):=by
 have hl:=h.len;have hc:=h.cap;refine⟨by simp[toI_length];omega,by omega,by omega,(fun hn=>?_),?_⟩
 ·by_cases e:m=l
  ·omega
  ·rw[if_neg e] at hn
   have:a=none:=by simpa using hn
   have:=h.2.2.2.1 this;omega
 ·by_cases e:r=l
  ·exact .inl (by omega)
  ·obtain⟨b,off,rfl,hb,hcell⟩:=h.cell (k:=l) (by omega)
   refine .inr ⟨b,off+l,by rw[if_neg (by omega)];simp[add_none],hb,fun i hi=>?_⟩;rw[toI_get,Nat.add_assoc,hcell (l+i) (by omega)];simp[hi]
theorem sub_run {P:Program} {T:TypeId} (hT:P.underlying T=some (.slice (P.elem T))) (hz:∀w,(sizeOf (P.elem T)).run P w=.ok 1 w) (a:Option Addr) (len cap l r m:Nat) (h1:l≤r) (h3:r≤m) (h4:m≤cap) :
 ∃a2,a2=(if m=l then a else a.map (·.add (l*1)))∧∀(k k2 k3:IntKind) w,(Instr.slice T (.slice a len cap) (some (.int k l)) (some (.int k2 r)) (some (.int k3 m))).run P w=.ok (.slice a2 (r-l) (m-l)) w:=by
 refine⟨_,rfl,fun k k2 k3 w=>?_⟩;rw[run_slice_lhm w T a len cap hT k k2 k3 l r m (by omega) (by omega) (by omega) (by omega),hz]
 rfl
end Go.Proofs.YtpghlmcoajaiiaaGreatDoor
