/- Texts that other texts of this claim lean on, one behind the other. -/
import Derived.Test.YtpghlmcoajaiiaaGreatDoorB1
import Derived.Laws.BitsAllLaws
import Derived.Laws.CopyOwn
import Derived.Deep.Slices
import Derived.ProofKit
import Derived.ChangeOld
import Derived.Deep.RegionLaw
import Derived.Deep.RegionWith
import Derived.Outline
set_option maxHeartbeats 20000000
set_option maxRecDepth 100000
namespace Go.Proofs.YtpghlmcoajaiiaaGreatDoor
open Go.RowKit
def Half (w:World):Prop:=0<w.heap.size∧∀i,i<16→w.cell? ⟨0,i,none⟩=some (.int .u32 ((half[i]?.getD 0:Nat):Int))
theorem Half.below {w w':World} {B:Nat} (hB:w.heap.size≤B) (hb:Below B w w') (h:Half w):Half w':=
 ⟨Nat.lt_of_lt_of_le h.1 hb.size,fun i hi=>(hb.cell (p:=⟨0,i,none⟩) (Nat.lt_of_lt_of_le h.1 hB)).trans (h.2 i hi)⟩
theorem Half.grown {w w':World} {t:Nat} (h:Half w) (hg:w.grownBy w' (some t)) (hne:t≠0):Half w':=
 ⟨Nat.lt_of_lt_of_le h.1 hg.size,fun i hi=>(World.cell?_of_block (hg.block 0 h.1 (fun e=>hne (by cases e;rfl)))).trans (h.2 i hi)⟩
theorem max32:IntKind.u32.max=((4294967295:Nat):Int):=by decide
theorem not_u32 (s:Nat) (h:s<4294967296):bits .xor .u32 IntKind.u32.max (s:Int)=((4294967295-s:Nat):Int):=by
 rw[max32,u32_xor_nat 4294967295 s (by decide) h,not32 s h]
theorem and15 (y:Nat) (h:y<4294967296):bits .and .u32 (y:Int) 15=((y % 16:Nat):Int):=by
 have e:=u32_and_nat y 15 h (by decide);have e2:y &&& 15=y % 16:=Nat.and_two_pow_sub_one_eq_mod y 4;rw[e2] at e;exact e
theorem crcOn_any (sum:Nat) (a:Option Addr) (len cap:Nat) (l:List UInt8) (w:World) (hs:sum<4294967296) (hbs:Bs w a len cap l) (hh:Half w) :
 Calls Tryz.prog 112 #[.int .u32 sum,.slice a len cap] w fun e w'=>e=.returned (.int .u32 (crcOn sum l))∧w=w':=by
 have hll:=Hd hbs.len;have hm:=hbs.cap;unfold maxLen at hm;have hn:=not_u32 sum hs;obtain⟨x0,hx0⟩:∃x0,x0=4294967295-sum:=⟨_,rfl⟩
 have hres:crcOn sum l=4294967295-crcX x0 l:=by rw[hx0];rfl
 have hx0b:x0<4294967296:=by omega
 rw[←hx0] at hn;have HR:=Hd hres;clear hx0 hres;go_enter Tryz.func112,Tryz.ntmps112
 go_wp2
 go_loop [5,12] (fun x i=>∃k:Nat,k≤len∧i=.int .i64 k∧x=.int .u32 (crcX x0 (l.take k))) (fun _ i=>len-(intOf i).toNat)
 case atStart=>exact⟨0,Nat.zero_le _,rfl,rfl⟩
 case round=>
  obtain⟨k,hk,rfl,rfl⟩:=hrel
  by_cases hlt:k<len
  ·obtain⟨b,off,rfl,hb,hcell⟩:=hbs.cell hlt
   have hck:=hcell k hlt;have hxl:=crcX_lt (l.take k) hx0b;have hst:crcX x0 (l.take (k+1))=stepC (crcX x0 (l.take k)) (l[k]?.getD 0):=by
    rw[List.take_add_one,List.getElem?_eq_getElem (by rw[hll.out];exact hlt)];exact crcX_snoc _ _ _
   have hcb:(l[k]?.getD 0).toNat<256:=(l[k]?.getD 0).toNat_lt;generalize l[k]?.getD 0=c at *;generalize crcX x0 (l.take k)=x at *;have H:=Hd hst;clear hst hcell;have hx1:=u32_xor_nat x c.toNat (by omega) (by omega);have hy:=xor_lt hxl (show c.toNat<4294967296 by omega);have hy8:stepC x c=steps 4 (steps 4 (x ^^^ c.toNat)):=steps_add 4 4 _;have hz:=steps_lt 4 hy;have f1:=steps_four (x ^^^ c.toNat);have f2:=steps_four (steps 4 (x ^^^ c.toNat));generalize x ^^^ c.toNat=y at *;generalize hzz:steps 4 y=z at *;generalize stepC x c=q at *;generalize hqq:steps 4 z=q' at *;have hq4:=steps_lt 4 hz;rw[hqq] at hq4;have h1:y % 16<16:=by omega
   have h2:z % 16<16:=by omega
   have t1:=hh.2 (y % 16) h1;have t2:=hh.2 (z % 16) h2;have hv1:half[y % 16]?.getD 0<4294967296:=by rw[half_eq _ h1];exact steps_lt 4 (by omega)
   have hv2:half[z % 16]?.getD 0<4294967296:=by rw[half_eq _ h2];exact steps_lt 4 (by omega)
   generalize half[y % 16]?.getD 0=v1 at *;generalize half[z % 16]?.getD 0=v2 at *;have hxo1:=u32_xor_nat (y / 16) v1 (by omega) hv1;have hxo2:=u32_xor_nat (z / 16) v2 (by omega) hv2;rw[←f1] at hxo1;rw[←f2] at hxo2;have hxo1:bits .xor .u32 ((y:Int) / 16) (v1:Int)=(z:Int):=hxo1;have hxo2:bits .xor .u32 ((z:Int) / 16) (v2:Int)=(q':Int):=hxo2;have HQ:=Hd hy8;have a1:=and15 y hy;have a2:=and15 z hz;clear f1 f2 hy8 hzz hqq hh
   go_wp2
   go_round
   case rel=>exact⟨k+1,by omega,by go_num,by rw[H.out,HQ.out]⟩
   case measure=>simp[intOf];omega
  ·obtain rfl:k=len:=by omega
   have hx:l.take k=l:=List.take_of_length_le (by rw[hll.out];exact Nat.le_refl _);rw[hx];have hxl:=crcX_lt l hx0b;have hn2:=not_u32 (crcX x0 l) hxl;rw[←HR.out] at hn2;clear hx;exact q72c811
theorem crcOf_any (a:Option Addr) (len cap:Nat) (l:List UInt8) (w:World) (hbs:Bs w a len cap l) (hh:Half w) :
 Calls Tryz.prog 69 #[.slice a len cap] w fun e w'=>e=.returned (.int .u32 (crcOf l))∧w=w':=by
 go_enter Tryz.func69,Tryz.ntmps69;go_wp2_with fail;refine(crcOn_any 0 a len cap l w (by omega) hbs hh).mono ?_;rintro e w' ⟨rfl,rfl⟩;exact q72c811
theorem refOn_any (sum:Nat) (l:List UInt8) (w:World) (hs:sum<4294967296) (hl:l.length≤9223372036854775807) :
 Calls Tryz.prog 113 #[.int .u32 sum,.string (strOf l)] w fun e w'=>e=.returned (.int .u32 (crcOn sum l))∧w=w':=by
 have hsz:=strOf_size l;obtain⟨x0,hx0⟩:∃x0,x0=4294967295-sum:=⟨_,rfl⟩
 have hres:crcOn sum l=4294967295-crcX x0 l:=by rw[hx0];rfl
 have hx0b:x0<4294967296:=by omega
 have hx0c:(x0:Int)=4294967295-(sum:Int):=by omega
 have HR:=Hd hres;have HX:=Hd hx0c;clear hx0 hres hx0c;go_enter Tryz.func113,Tryz.ntmps113
 go_wp2
 go_loop [5,6,7,8] (fun x i _ _=>∃k:Nat,k≤l.length∧i=.int .i64 k∧x=.int .u32 (crcX x0 (l.take k))) (fun _ i _ _=>l.length-(intOf i).toNat)
 case atStart=>exact⟨0,Nat.zero_le _,rfl,by show _=Value.int .u32 (x0:Int);rw[HX.out]⟩
 case round=>
  obtain⟨k,hk,rfl,rfl⟩:=hrel
  by_cases hlt:k<l.length
  ·have hxl:=crcX_lt (l.take k) hx0b
   have hst:crcX x0 (l.take (k+1))=stepC (crcX x0 (l.take k)) (l[k]?.getD 0):=by
    rw[List.take_add_one,List.getElem?_eq_getElem hlt];exact crcX_snoc _ _ _
   have hget:=strOf_get l k hlt;have hcb:(l[k]?.getD 0).toNat<256:=(l[k]?.getD 0).toNat_lt;generalize l[k]?.getD 0=c at *;generalize crcX x0 (l.take k)=x at *;have H:=Hd hst;clear hst;have hx1:=u32_xor_nat x c.toNat (by omega) (by omega);have hy:=xor_lt hxl (show c.toNat<4294967296 by omega);have hq:stepC x c=steps 8 (x ^^^ c.toNat):=rfl;generalize x ^^^ c.toNat=y at *;generalize stepC x c=q at *;have HQ:=Hd hq;clear hq
   go_wp2
   go_loop [5,7,8] (fun x kk _=>∃j:Nat,j≤8∧kk=.int .i64 j∧x=.int .u32 (steps j y)) (fun _ kk _=>8-(intOf kk).toNat)
   case atStart=>exact⟨0,by omega,rfl,rfl⟩
   case round=>
    obtain⟨j,hj,rfl,rfl⟩:=hrel
    by_cases hj8:j<8
    ·have hz:=steps_lt j hy
     have hs1:=steps_succ j y;generalize steps j y=z at *;have HS:=Hd hs1;clear hs1;have hpo:=u32_xor_nat (z / 2) 3988292384 (by omega) (by omega);have hpo:bits .xor .u32 ((z:Int) / 2) 3988292384=((z / 2 ^^^ 3988292384:Nat):Int):=hpo
     by_cases ho:z % 2=1
     ·have hb:(((z:Int) % 2) == 1)=true:=by simp;omega
      have hbz:stepB z=z / 2 ^^^ 3988292384:=by rw[stepB,if_pos ho]
      have HB:=Hd hbz;clear hbz ho
      go_wp2
      go_round
      case rel=>exact⟨j+1,by omega,by go_num,by rw[HS.out,HB.out]⟩
      case measure=>simp[intOf];omega
     ·have hb:(((z:Int) % 2) == 1)=false:=by simp;omega
      have hbz:stepB z=z / 2:=by rw[stepB,if_neg ho]
      have HB:=Hd hbz;clear hbz ho hpo
      go_wp2
      go_round
      case rel=>exact⟨j+1,by omega,by go_num,by rw[HS.out,HB.out];go_num⟩
      case measure=>simp[intOf];omega
    ·obtain rfl:j=8:=by omega
     rw[←HQ.out]
     go_wp2
     go_round
     case rel=>exact⟨k+1,by omega,by go_num,by rw[H.out]⟩
     case measure=>simp[intOf];omega
  ·obtain rfl:k=l.length:=by omega
   rw[List.take_length];have hxl:=crcX_lt l hx0b;have hn2:(4294967295:Int)-(crcX x0 l:Int)=(crcOn sum l:Int):=by rw[HR.out];omega
   exact q72c811
theorem refOf_any (l:List UInt8) (w:World) (hl:l.length≤9223372036854775807) :
 Calls Tryz.prog 70 #[.string (strOf l)] w fun e w'=>e=.returned (.int .u32 (crcOf l))∧w=w':=by
 go_enter Tryz.func70,Tryz.ntmps70;go_wp2_with fail;refine(refOn_any 0 l w (by omega) hl).mono ?_;rintro e w' ⟨rfl,rfl⟩;exact q72c811
def lens (l:List (List UInt8)):Nat:=(l.map List.length).sum
theorem lens_append (a b:List (List UInt8)):lens (a++b)=lens a+lens b:=by simp[lens]
theorem lens_one (c:List UInt8):lens [c]=c.length:=by simp[lens]
theorem take_snoc {α:Type} (l:List α) (k:Nat) (d:α) (h:k<l.length):l.take (k+1)=l.take k++[l[k]?.getD d]:=by
 rw[List.take_add_one,List.getElem?_eq_getElem h];rfl
theorem lens_take_succ (l:List (List UInt8)) (k:Nat) (h:k<l.length):lens (l.take (k+1))=lens (l.take k)+(l[k]?.getD []).length:=by
 rw[take_snoc l k [] h,lens_append,lens_one]
theorem lens_take_le (l:List (List UInt8)) (k:Nat):lens (l.take k)≤lens l:=by
 have h:=lens_append (l.take k) (l.drop k);rw[List.take_append_drop] at h;omega
def slotsOf:Nat→List (List UInt8)→List UInt8
 | _,[]=>[]
 | e,c::r=>UInt8.ofNat (e-c.length)::slotsOf (e-c.length) r
def backOf (l:List (List UInt8)):List UInt8:=l.reverse.flatten
theorem slotsOf_length (l:List (List UInt8)):∀e,(slotsOf e l).length=l.length:=by
 induction l with
 | nil=>intro e;rfl
 | cons c r ih=>intro e;simp[slotsOf,ih]
theorem slotsOf_append (l m:List (List UInt8)):∀e,slotsOf e (l++m)=slotsOf e l++slotsOf (e-lens l) m:=by
 induction l with
 | nil=>intro e;simp[slotsOf,lens]
 | cons c r ih=>intro e;simp[slotsOf,ih,lens,Nat.sub_sub]
theorem backOf_append (l m:List (List UInt8)):backOf (l++m)=backOf m++backOf l:=by simp[backOf]
theorem backOf_one (c:List UInt8):backOf [c]=c:=by simp[backOf]
theorem backOf_length (l:List (List UInt8)):(backOf l).length=lens l:=by
 induction l with
 | nil=>rfl
 | cons c r ih=>
  have h1:c::r=[c]++r:=rfl;rw[h1,backOf_append,List.length_append,ih,backOf_one,lens_append,lens_one];omega
def bodyOf (kind:UInt8) (n:Nat) (l:List (List UInt8)):List UInt8:=
 kind::UInt8.ofNat n::(slotsOf 128 l++(List.replicate (122-l.length-lens l) 0++backOf l))
def pageOf (kind:UInt8) (l:List (List UInt8)):List UInt8:=beBytes (crcOf (bodyOf kind l.length l)) 4++bodyOf kind l.length l
theorem bodyOf_length (kind:UInt8) (n:Nat) (l:List (List UInt8)) (h:l.length+lens l≤122):(bodyOf kind n l).length=124:=by
 simp[bodyOf,slotsOf_length,backOf_length];omega
def rawOf (kind:UInt8) (n:Nat) (l:List (List UInt8)):List UInt8:=[0,0,0,0]++bodyOf kind n l
theorem rawOf_length (kind:UInt8) (n:Nat) (l:List (List UInt8)) (h:l.length+lens l≤122):(rawOf kind n l).length=128:=by
 rw[rawOf,List.length_append,bodyOf_length kind n l h];rfl
theorem rawOf_nil (kind:UInt8) (n:Nat):rawOf kind n []=((List.replicate 128 (0:UInt8)).set 4 kind).set 5 (UInt8.ofNat n):=by
 simp[rawOf,bodyOf,slotsOf,backOf,lens,List.replicate,List.set]
theorem splice_mid {α:Type} (a z c b:List α) (h:c.length≤z.length):splice (a++(z++b)) (a.length+(z.length-c.length)) c=a++(z.take (z.length-c.length)++(c++b)):=by
 unfold splice;have e1:(a++(z++b)).take (a.length+(z.length-c.length))=a++z.take (z.length-c.length):=by
  rw[List.take_append,List.take_of_length_le (by omega)]
  congr 1
  rw[List.take_append_of_le_length (by omega)]
  congr 1;omega
 have e2:(a++(z++b)).drop (a.length+(z.length-c.length)+c.length)=b:=by
  have:a.length+(z.length-c.length)+c.length=(a++z).length:=by simp;omega
  rw[this,←List.append_assoc,List.drop_append,List.drop_length];simp
 rw[e1,e2];simp
theorem raw_step (kind:UInt8) (n:Nat) (l:List (List UInt8)) (c:List UInt8) (h:l.length+1+lens l+c.length≤122) :
 (splice (rawOf kind n l) (128-lens l-c.length) c).set (6+l.length) (UInt8.ofNat (128-lens l-c.length))=rawOf kind n (l++[c]):=by
 have e1:rawOf kind n l=([0,0,0,0,kind,UInt8.ofNat n]++slotsOf 128 l)++(List.replicate (122-l.length-lens l) 0++backOf l):=by simp[rawOf,bodyOf]
 have e2:=splice_mid ([0,0,0,0,kind,UInt8.ofNat n]++slotsOf 128 l) (List.replicate (122-l.length-lens l) 0) c (backOf l) (by simp;omega);have e3:([0,0,0,0,kind,UInt8.ofNat n]++slotsOf 128 l).length+((List.replicate (122-l.length-lens l) (0:UInt8)).length-c.length)=128-lens l-c.length:=by
  simp[slotsOf_length];omega
 rw[e3] at e2;rw[e1,e2,List.set_append_right _ _ (by simp[slotsOf_length];omega)];have e4:6+l.length-([0,0,0,0,kind,UInt8.ofNat n]++slotsOf 128 l).length=0:=by simp[slotsOf_length];omega
 obtain⟨m,hm⟩:∃m,122-l.length-lens l-c.length=m+1:=⟨122-l.length-lens l-c.length-1,by omega⟩
 have e5:(List.replicate (122-l.length-lens l) (0:UInt8)).take ((List.replicate (122-l.length-lens l) (0:UInt8)).length-c.length)=0::List.replicate m 0:=by
  rw[List.length_replicate,List.take_replicate,Nat.min_eq_left (by omega),hm,List.replicate_succ]
 rw[e4,e5];have e6:122-(l++[c]).length-lens (l++[c])=m:=by simp[lens_append,lens_one];omega
 simp only[rawOf,bodyOf,slotsOf_append,backOf_append,backOf_one,e6,slotsOf,List.cons_append,List.nil_append,List.append_assoc,List.set_cons_zero]
theorem raw_sum (kind:UInt8) (n:Nat) (l:List (List UInt8)) (s:List UInt8) (h:s.length=4):splice (rawOf kind n l) 0 s=s++bodyOf kind n l:=by
 unfold splice rawOf;rw[h];rfl
open Go.RowKit
theorem size_bytes (w:World):(sizeOf (Tryz.prog.elem 42)).run Tryz.prog w=.ok 1 w:=by kernel_rfl
theorem elem_bytes:Tryz.prog.underlying 42=some (.slice (Tryz.prog.elem 42)):=by kernel_rfl
def Tk (w:World) (t:Nat) (s:TSt):Prop:=
 ∃a cap,w.heap[t]? = some (.cells #[.slice a s.l.length cap,.int .i64 s.e] 231 (0,0))∧Bs w a s.l.length cap s.l
theorem Tk.lt {w:World} {t:Nat} {s:TSt} (h:Tk w t s):t<w.heap.size:=by
 obtain⟨a,cap,h1,_⟩:=h;exact(Array.getElem?_eq_some_iff.1 h1).1
theorem bs_ne {w:World} {t:Nat} {a b:Option Addr} {n m len cap:Nat} {e:Int} {T:TypeId} {l:List UInt8} (h1:w.heap[t]? = some (.cells #[.slice b n m,.int .i64 e] T (0,0))) (h2:Bs w a len cap l) :
 ∀b off,len≠0→a=some ⟨b,off,none⟩→some t≠some b:=by
 intro b off hl ha hb;cases hb;obtain⟨b',off',e1,_,h7⟩:=h2.cell (k:=0) (by omega);rw[ha] at e1;cases e1;have:=h7 0 (by omega);simp only[World.cell?,h1,Nat.add_zero] at this
 match off,this with
 | 0,this=>simp at this
 | 1,this=>simp at this
 | n+2,this=>simp at this
theorem Tk.grown {w w':World} {t:Nat} {s:TSt} {row:Option Nat} (h:Tk w t s) (hg:w.grownBy w' row) (hne:row≠some t) (hb:∀a n m b off,w.heap[t]? = some (.cells #[.slice a n m,.int .i64 s.e] 231 (0,0))→s.l.length≠0→a=some ⟨b,off,none⟩→row≠some b):Tk w' t s:=by
 obtain⟨a,cap,h1,h2⟩:=h;exact⟨a,cap,(hg.block t (Array.getElem?_eq_some_iff.1 h1).1 (fun e=>hne e.symm)).trans h1,h2.grown hg (fun b off h3 h4=>hb a _ _ b off h1 h3 h4)⟩
theorem Tk.below {w w':World} {t:Nat} {s:TSt} {B:Nat} (hB:w.heap.size≤B) (hb:Below B w w') (h:Tk w t s):Tk w' t s:=by
 obtain⟨a,cap,h1,h2⟩:=h;exact⟨a,cap,(hb.block t (Nat.lt_of_lt_of_le (Array.getElem?_eq_some_iff.1 h1).1 hB)).trans h1,h2.below hB hb⟩
def TkPost (w:World) (t:Nat) (R:World→Value→Prop) (s':TSt) (e:Ending) (w':World):Prop:=
 ∃v,e=.returned v∧R w' v∧w.grownBy w' (some t)∧Tk w' t s'
theorem beVal_step (l:List UInt8) (k:Nat) (h:k<l.length):beVal (l.take (k+1))=beVal (l.take k)*256+(l[k]?.getD 0).toNat:=by
 rw[List.take_add_one,List.getElem?_eq_getElem h];exact beVal_snoc _ _
theorem num1_any (a:Option Addr) (len cap:Nat) (l:List UInt8) (w:World) (h:Bs w a len cap l) (h8:len≤8) :
 Calls Tryz.prog 106 #[.slice a len cap] w fun e w'=>e=.returned (.int .u64 (beVal l))∧w=w':=by
 have hll:=Hd h.len;have hm:=h.cap.2;have hc:=h.cap.1;unfold maxLen at hm;go_enter Tryz.func106,Tryz.ntmps106
 go_wp2
 go_loop [3,8] (fun x i=>∃k:Nat,k≤len∧i=.int .i64 k∧x=.int .u64 (beVal (l.take k))) (fun _ i=>len-(intOf i).toNat)
 case atStart=>exact⟨0,Nat.zero_le _,rfl,rfl⟩
 case round=>
  obtain⟨k,hk,rfl,rfl⟩:=hrel
  by_cases hlt:k<len
  ·obtain⟨b,off,rfl,hb,hcell⟩:=h.cell hlt
   have hck:=hcell k hlt;have hst:=beVal_step l k (by rw[hll.out];exact hlt);have hbd:beVal (l.take k)<72057594037927936:=by
    have h1:=beVal_lt (l.take k);have h2:(l.take k).length≤7:=by simp;omega
    have h3:256 ^ (l.take k).length≤256 ^ 7:=Nat.pow_le_pow_right (by decide) h2;omega
   have hcb:=(l[k]?.getD 0).toNat_lt;generalize (l[k]?.getD 0).toNat=c at *;generalize beVal (l.take k)=x at *;have H:=Hd hst;clear hst hcell;have hor:=or256 x c hbd hcb;exact q931089
  ·obtain rfl:k=len:=by omega
   have hx:l.take k=l:=List.take_of_length_le (by rw[hll.out];exact Nat.le_refl _);rw[hx];clear hx;exact q72c811
theorem text1_any (a:Option Addr) (len cap:Nat) (l:List UInt8) (w:World) (h:Bs w a len cap l) :
 Calls Tryz.prog 108 #[.slice a len cap] w fun e w'=>e=.returned (.string (strOf l))∧w=w':=by
 have hcv:=conv_string Tryz.underlying42 Tryz.underlying5 Tryz.underlying9 h;go_enter Tryz.func108,Tryz.ntmps108;exact q72c811
theorem clone_any (a:Option Addr) (len cap:Nat) (l:List UInt8) (w:World) (h:Bs w a len cap l) (hreach:len≤140737488351232) :
 Calls Tryz.prog 104 #[.slice a len cap] w (OwnBytes 5 w l):=by
 obtain⟨i0,hi,hz0,hz1,hz2⟩:=info_parts info_u8;have hll:=Hd h.len;cases a with
 | none=>
  have hc:=h.2.2.2.1 rfl;have h0:len=0:=by have:=h.2.1;omega
  subst hc h0;have hl0:l=[]:=List.eq_nil_of_length_eq_zero h.len;have HL:=Hd hl0;clear hl0;have hq:∀W:World,(binOp .eql 42 (.slice none 0 0) (.slice none 0 0)).run Tryz.prog W=.ok (.bool true) W:=fun W=>Lib.run_eql_slice_nil W _ _ none 0 0 0 0 Tryz.underlying42
  go_enter Tryz.func104,Tryz.ntmps104
  go_wp2
  go_ret;exact⟨_,rfl,by rw[HL.out];exact⟨rfl,.inl ⟨rfl,rfl⟩⟩,Below.refl _ _⟩
 | some x=>
  have hm:=h.cap.2;unfold maxLen at hm;have hq:∀W:World,(binOp .eql 42 (.slice (some x) len cap) (.slice none 0 0)).run Tryz.prog W=.ok (.bool false) W:=fun W=>Lib.run_eql_slice_nil W _ _ (some x) len cap 0 0 Tryz.underlying42
  go_enter Tryz.func104,Tryz.ntmps104;exact q8f9fd8
end Go.Proofs.YtpghlmcoajaiiaaGreatDoor
namespace Go.Proofs.YtpghlmcoajaiiaaGreatDoor
open Go.RowKit Go.Deep Go.WideShapes
def TabR {α:Type} (sz:Nat) (R:List Value→α→Prop) (w:World) (a:Option Addr) (len cap:Nat) (l:List α):Prop:=
 l.length=len∧len≤cap∧cap≤maxLen∧(a=none→cap=0)∧(len=0∨∃b off,a=some ⟨b,off,none⟩∧b<w.heap.size ∧
  ∀i y,l[i]? = some y→∃cs,cs.length=sz∧R cs y∧∀j v,cs[j]? = some v→w.cell? ⟨b,off+i*sz+j,none⟩=some v)
theorem TabR.mono {α:Type} {sz:Nat} {R R':List Value→α→Prop} {w:World} {a:Option Addr} {len cap:Nat} {l:List α} (h:TabR sz R w a len cap l) (hR:∀cs y,R cs y→R' cs y):TabR sz R' w a len cap l:=by
 obtain⟨h1,h2,h3,hn,h4⟩:=h;refine⟨h1,h2,h3,hn,?_⟩
 rcases h4 with h4|⟨b,off,h5,h6,h7⟩
 ·exact .inl h4
 ·exact .inr ⟨b,off,h5,h6,fun i y hy=>by obtain⟨cs,c1,c2,c3⟩:=h7 i y hy;exact⟨cs,c1,hR _ _ c2,c3⟩⟩
theorem TabR.below {α:Type} {sz:Nat} {R:List Value→α→Prop} {w w':World} {a:Option Addr} {len cap:Nat} {l:List α} {B:Nat} (hB:w.heap.size≤B) (hb:Below B w w') (h:TabR sz R w a len cap l):TabR sz R w' a len cap l:=by
 obtain⟨h1,h2,h3,hn,h4⟩:=h;refine⟨h1,h2,h3,hn,?_⟩
 rcases h4 with h4|⟨b,off,h5,h6,h7⟩
 ·exact .inl h4
 ·exact .inr ⟨b,off,h5,by have:=hb.size;omega,fun i y hy=>by
   obtain⟨cs,c1,c2,c3⟩:=h7 i y hy;exact⟨cs,c1,c2,fun j v hv=>(hb.cell (p:=⟨b,off+i*sz+j,none⟩) (by simp;omega)).trans (c3 j v hv)⟩⟩
theorem TabR.at {α:Type} {sz:Nat} {R:List Value→α→Prop} {w:World} {a:Option Addr} {len cap:Nat} {l:List α} (h:TabR sz R w a len cap l) {k:Nat} (hk:k<len) :
 ∃b off y cs,a=some ⟨b,off,none⟩∧b<w.heap.size∧l[k]? = some y∧cs.length=sz∧R cs y∧∀j v,cs[j]? = some v→w.cell? ⟨b,off+k*sz+j,none⟩=some v:=by
 obtain⟨h1,h2,h3,hn,h4⟩:=h
 rcases h4 with h4|⟨b,off,h5,h6,h7⟩
 ·omega
 ·have hy:l[k]? = some l[k]:=List.getElem?_eq_getElem (by omega)
  obtain⟨cs,c1,c2,c3⟩:=h7 k _ hy;exact⟨b,off,_,cs,h5,h6,hy,c1,c2,c3⟩
theorem add_none (b off j:Nat):(⟨b,off,none⟩:Addr).add j=⟨b,off+j,none⟩:=by unfold Addr.add;split<;>simp_all
section
variable {H:Type} {enc:TypeId×Value→H} {P:Program} {w:World} {base:Nat}
theorem open_tab {α:Type} {t e:TypeId} {sz:Nat} (ht:P.underlying t=some (.slice e)) (hsz:P.cellsOf e=sz) (hpos:0<sz) (R:List Value→α→Prop)
 (hR:∀n cs x,cs.length=sz→DataW.trod enc P w 0 (fun _=>true) true n e cs=some x→∃y,R cs y)
 {v:Value} {d:DataW H} {p:List MemPlace} (hv:Value.okWide P w .any base t v) (h:DataW.Trod enc P w 0 (fun _=>true) true t v d p) :
 ∃a len cap l,v=.slice a len cap∧TabR sz R w a len cap l:=by
 obtain⟨a,len,cap,rfl⟩:=okWide_slice ht hv;obtain⟨fuel,hf⟩:=h
 rcases open_slice ht hf with⟨hcs,_⟩|⟨x,len',cap',m,n,D,Pl,hcs,_,hl,hm,hmm,_,hx⟩
 ·simp[Value.cells] at hcs
  obtain⟨rfl,rfl,rfl⟩:=hcs;exact⟨none,0,0,[],rfl,rfl,Nat.le_refl _,by unfold maxLen;omega,fun _=>rfl,.inl rfl⟩
 ·simp[Value.cells] at hcs
  obtain⟨rfl,rfl,rfl⟩:=hcs;have hlm:len≤m:=by rw[hmm];exact hl
  rw[hsz] at hx;have each:∀i,i<len→∃q:α×List Value,q.2.length=sz∧R q.2 q.1∧∀j,j<sz→w.cell? ((x.add (i*sz)).add j)=q.2[j]? := by
   intro i hi;obtain⟨cs',h1,h2⟩:=hx i (by omega);obtain⟨_,hlen,hcell⟩:=World.cells?_some h1;obtain⟨y,hy⟩:=hR n cs' _ hlen h2;exact⟨(y,cs'),hlen,hy,hcell⟩
  by_cases h0:len=0
  ·subst h0
   exact⟨_,0,cap,[],rfl,rfl,hl,hm,(fun h=>by cases h),.inl rfl⟩
  ·obtain⟨q0,g1,_,g3⟩:=each 0 (by omega)
   haveI:Inhabited (α×List Value):=⟨q0⟩
   obtain⟨q,hq⟩:=choose_lt each;have g4:=g3 0 hpos;obtain⟨v0,hv0⟩:∃v0,q0.2[0]? = some v0:=⟨_,List.getElem?_eq_getElem (by omega)⟩
   rw[hv0] at g4;obtain⟨b,off,spot⟩:=x;have hspot:spot=none:=by
    have:=World.cell?_spot g4;simp[Addr.add] at this;exact this
   subst hspot;simp only[add_none] at hq g4;refine⟨_,len,cap,(List.range len).map fun i=>(q i).1,rfl,by simp,hl,hm,(fun h=>by cases h),.inr ⟨b,off,rfl,?_,fun i y hy=>?_⟩⟩
   ·by_cases hb:b<w.heap.size
    ·exact hb
    ·simp only[World.cell?] at g4
     rw[Array.getElem?_eq_none (show w.heap.size≤b by omega)] at g4;simp at g4
   ·have hi:i<len:=by
     have:=(List.getElem?_eq_some_iff.1 hy).1;simpa using this
    obtain⟨c1,c2,c3⟩:=hq i hi;have hy':y=(q i).1:=by
     simp[hi] at hy;exact hy.symm
    subst hy';refine⟨(q i).2,c1,c2,fun j v hv=>?_⟩;have hj:j<sz:=by rw[←c1];exact(List.getElem?_eq_some_iff.1 hv).1
    rw[c3 j hj];exact hv
end
end Go.Proofs.YtpghlmcoajaiiaaGreatDoor
namespace Go.Proofs.YtpghlmcoajaiiaaGreatDoor
open Go.RowKit
theorem equal_any (a:Option Addr) (n cap:Nat) (l:List UInt8) (b:Option Addr) (m cap2:Nat) (r:List UInt8) (w:World) (h1:Bs w a n cap l) (h2:Bs w b m cap2 r) :
 Calls Tryz.prog 173 #[.slice a n cap,.slice b m cap2] w fun e w'=>e=.returned (.bool (l == r))∧w=w':=by
 have c1:=conv_string Tryz.underlying42 Tryz.underlying5 Tryz.underlying9 h1;have c2:=conv_string Tryz.underlying42 Tryz.underlying5 Tryz.underlying9 h2;have hst:=strOf_toList;go_enter Tryz.func173,Tryz.ntmps173;exact q72c811
theorem bclone_any (a:Option Addr) (len cap:Nat) (l:List UInt8) (w:World) (h:Bs w a len cap l) (hreach:len≤140737488351232) :
 Calls Tryz.prog 171 #[.slice a len cap] w (OwnBytes 5 w l):=by
 obtain⟨i0,hi,hz0,hz1,hz2⟩:=info_parts info_u8;have hll:=Hd h.len;cases a with
 | none=>
  have hc:=h.2.2.2.1 rfl;have h0:len=0:=by have:=h.2.1;omega
  subst hc h0;have hl0:l=[]:=List.eq_nil_of_length_eq_zero h.len;have HL:=Hd hl0;clear hl0;have hq:∀W:World,(binOp .eql 42 (.slice none 0 0) (.slice none 0 0)).run Tryz.prog W=.ok (.bool true) W:=fun W=>Lib.run_eql_slice_nil W _ _ none 0 0 0 0 Tryz.underlying42
  go_enter Tryz.func171,Tryz.ntmps171
  go_wp2
  go_ret;exact⟨_,rfl,by rw[HL.out];exact⟨rfl,.inl ⟨rfl,rfl⟩⟩,Below.refl _ _⟩
 | some x=>
  have hm:=h.cap.2;unfold maxLen at hm;have hq:∀W:World,(binOp .eql 42 (.slice (some x) len cap) (.slice none 0 0)).run Tryz.prog W=.ok (.bool false) W:=fun W=>Lib.run_eql_slice_nil W _ _ (some x) len cap 0 0 Tryz.underlying42
  go_enter Tryz.func171,Tryz.ntmps171;exact q8f9fd8
def IsBs (w:World) (cs:List Value) (y:List UInt8):Prop:=∃a n cap,cs=[.slice a n cap]∧Bs w a n cap y
def Bss (w:World) (a:Option Addr) (len cap:Nat) (l:List (List UInt8)):Prop:=TabR 1 (IsBs w) w a len cap l
theorem Bss.below {w w':World} {a:Option Addr} {len cap:Nat} {l:List (List UInt8)} {B:Nat} (hB:w.heap.size≤B) (hb:Below B w w') (h:Bss w a len cap l):Bss w' a len cap l:=
 (TabR.below hB hb h).mono fun _ _ ⟨a,n,c,e,h⟩=>⟨a,n,c,e,h.below hB hb⟩
theorem Bss.at {w:World} {a:Option Addr} {len cap:Nat} {l:List (List UInt8)} (h:Bss w a len cap l) {k:Nat} (hk:k<len) :
 ∃b off a' n' cap',a=some ⟨b,off,none⟩∧b<w.heap.size∧w.cell? ⟨b,off+k,none⟩=some (.slice a' n' cap')∧Bs w a' n' cap' (l[k]?.getD []):=by
 obtain⟨b,off,y,cs,e1,e2,e3,_,⟨a',n',cap',rfl,e5⟩,e6⟩:=TabR.at h hk;refine⟨b,off,a',n',cap',e1,e2,?_,by rw[e3];exact e5⟩;have:=e6 0 _ rfl;simpa using this
def IsStr (cs:List Value) (y:List UInt8):Prop:=cs=[.string (strOf y)]
def Strs (w:World) (a:Option Addr) (len cap:Nat) (l:List (List UInt8)):Prop:=TabR 1 IsStr w a len cap l
theorem Strs.at {w:World} {a:Option Addr} {len cap:Nat} {l:List (List UInt8)} (h:Strs w a len cap l) {k:Nat} (hk:k<len) :
 ∃b off,a=some ⟨b,off,none⟩∧b<w.heap.size∧w.cell? ⟨b,off+k,none⟩=some (.string (strOf (l[k]?.getD []))):=by
 obtain⟨b,off,y,cs,e1,e2,e3,_,e5,e6⟩:=TabR.at h hk;subst e5;have:=e6 0 _ rfl;refine⟨b,off,e1,e2,?_⟩;rw[e3];simpa using this
theorem csize_any (a:Option Addr) (len cap:Nat) (l:List (List UInt8)) (w:World) (h:Bss w a len cap l) (hb:len+lens l≤9223372036854775807) :
 Calls Tryz.prog 175 #[.slice a len cap] w fun e w'=>e=.returned (.int .i64 ((len+lens l:Nat):Int))∧w=w':=by
 have hll:=Hd h.1;have hm:=h.2.2.1;have hc:=h.2.1;unfold maxLen at hm;go_enter Tryz.func175,Tryz.ntmps175
 go_wp2
 go_loop [3,10] (fun s i=>∃k:Nat,k≤len∧i=.int .i64 k∧s=.int .i64 ((len+lens (l.take k):Nat):Int)) (fun _ i=>len-(intOf i).toNat)
 case atStart=>exact⟨0,Nat.zero_le _,rfl,by simp[lens]⟩
 case round=>
  obtain⟨k,hk,rfl,rfl⟩:=hrel
  by_cases hlt:k<len
  ·obtain⟨b,off,a',n',cap',rfl,hbb,hcell,hbs⟩:=h.at hlt
   have hst:=lens_take_succ l k (by rw[hll.out];exact hlt);have hle:=lens_take_le l (k+1);rw[hbs.len] at hst;have hst2:len+lens (l.take (k+1))=len+lens (l.take k)+n':=by omega
   have hle2:len+lens (l.take k)+n'≤9223372036854775807:=by omega
   have H:=Hd hst2;clear hst hst2 hle;generalize len+lens (l.take k)=q at *;exact q931089
  ·obtain rfl:k=len:=by omega
   exact q7b2129
def Page (w:World) (g:Nat) (l:List UInt8):Prop:=w.heap[g]? = some (.cells ((toI l).map (Value.int .u8)).toArray 121 (0,0))
theorem zero_cells:Tryz.zeroCells121=((toI (List.replicate 128 (0:UInt8))).map (Value.int .u8)).toArray:=by kernel_rfl
theorem Page.cell {w:World} {g:Nat} {l:List UInt8} (h:Page w g l) {i:Nat} (hi:i<l.length):w.cell? ⟨g,i,none⟩=some (.int .u8 ((l[i]?.getD 0).toNat:Int)):=by
 have e:(((toI l).map (Value.int .u8)).toArray)[i]? = some (.int .u8 ((l[i]?.getD 0).toNat:Int)):=by simp[toI,hi]
 simp only[World.cell?,show w.heap[g]? = _ from h];exact e
theorem Page.frozen {w:World} {g:Nat} {l:List UInt8} (h:Page w g l) (i:Nat):w.frozen? ⟨g,i,none⟩=false:=by simp[World.frozen?,show w.heap[g]? = _ from h]
theorem Page.set {w:World} {g:Nat} {l:List UInt8} (h:Page w g l) (i:Nat) (n:Nat) (hn:n<256):Page (w.setCell ⟨g,i,none⟩ (.int .u8 (n:Int))) g (l.set i (UInt8.ofNat n)):=by
 have e1:=heap_setCell_at i (.int .u8 (n:Int)) h;have e2:(UInt8.ofNat n).toNat=n:=by rw[UInt8.toNat_ofNat'];omega
 unfold Page;rw[e1];simp[toI,List.map_set,e2]
theorem page_under:Tryz.prog.underlying 121=some (.array (Tryz.prog.arrayLen 121) (Tryz.prog.elem 121)):=by kernel_rfl
theorem page_len:Tryz.prog.arrayLen 121=128:=by kernel_rfl
theorem page_size (w:World):(sizeOf (Tryz.prog.elem 121)).run Tryz.prog w=.ok 1 w:=by kernel_rfl
theorem page_from (g e:Nat) (he:e≤128):∃a2:Addr,(e<128→a2=⟨g,e,none⟩) ∧
 ∀(k:IntKind) (w:World),(Instr.sliceAt 121 (.pointer (some ⟨g,0,none⟩)) (some (.int k (e:Int))) none none).run Tryz.prog w=.ok (.slice (some a2) (128-e) (128-e)) w:=by
 refine⟨if 128=e then ⟨g,0,none⟩ else (⟨g,0,none⟩:Addr).add (e*1),fun h=>by rw[if_neg (by omega),add_none];simp,fun k w=>?_⟩;rw[run_sliceAt_array_l w _ _ page_under k e (by omega) (by rw[page_len];omega),page_size,page_len]
 rfl
theorem Page.row {w:World} {g:Nat} {l:List UInt8} (h:Page w g l) (hl:l.length=128):Bs w (some ⟨g,0,none⟩) 128 128 l:=
 ⟨by rw[toI_length,hl],Nat.le_refl _,by unfold maxLen;omega,(fun h=>by cases h),.inr ⟨g,0,rfl,(Array.getElem?_eq_some_iff.1 h).1,fun i hi=>by rw[Nat.zero_add,h.cell (by omega),toI_get]⟩⟩
theorem Page.rest {w:World} {g e:Nat} {l:List UInt8} (h:Page w g l) (hl:l.length=128) (he:e≤128) {a2:Addr} (ha:e<128→a2=⟨g,e,none⟩):Bs w (some a2) (128-e) (128-e) (l.drop e):=
 ⟨by rw[toI_length,List.length_drop,hl],Nat.le_refl _,by unfold maxLen;omega,(fun h=>by cases h),by
  by_cases h0:e<128
  ·obtain rfl:=ha h0
   exact .inr ⟨g,e,rfl,(Array.getElem?_eq_some_iff.1 h).1,fun i hi=>by rw[h.cell (by omega),toI_get,List.getElem?_drop]⟩
  ·exact .inl (by omega)⟩
theorem splice_map {α β:Type} (f:α→β) (L:List α) (off:Nat) (cs:List α):splice (L.map f) off (cs.map f)=(splice L off cs).map f:=by simp[splice,List.map_take,List.map_drop]
theorem toI_splice (L:List UInt8) (off:Nat) (cs:List UInt8):splice ((toI L).map (Value.int .u8)) off ((toI cs).map (Value.int .u8))=(toI (splice L off cs)).map (Value.int .u8):=by
 rw[splice_map];congr 1;exact splice_map _ _ _ _
theorem Bs.source {w:World} {a:Option Addr} {n cap:Nat} {c:List UInt8} (h:Bs w a n cap c) (hpos:0<((toI c).map (Value.int .u8)).length) :
 ∃ad,a=some ad∧∀j v,((toI c).map (Value.int .u8))[j]? = some v→w.cell? (ad.add j)=some v:=by
 have hl:=h.len;have hp:0<n:=by simpa[toI,hl] using hpos
 obtain⟨b,off,e,_,hc⟩:=h.cell hp;refine⟨_,e,fun j v hj=>?_⟩;have hjl:j<c.length:=by
  have:=(List.getElem?_eq_some_iff.1 hj).1;simpa[toI] using this
 rw[add_none,hc j (by omega)];simp[toI,hjl] at hj ⊢;exact hj
theorem one_cells (c:List UInt8):∀v∈(toI c).map (Value.int .u8),v.oneCell'=true:=fun v hv=>by
 obtain⟨y,_,rfl⟩:=List.mem_map.1 hv;rfl
theorem info_one:(Tryz.prog.info? 5).map (·.size)=some 1:=by kernel_rfl
theorem copy_sum {w:World} {g n cap:Nat} {a:Option Addr} {raw s:List UInt8} (hp:Page w g raw) (hl:raw.length=128) (h:Bs w a n cap s) (hn:0<n) (hn2:n≤128) :
 ∃w4,(Builtin.copy_ #[42,42] 3 #[.slice (some ⟨g,0,none⟩) 128 128,.slice a n cap]).run Tryz.prog w=.ok (.int .i64 n) w4∧Page w4 g (splice raw 0 s)∧∀B w0,Below B w0 w→B≤g→Below B w0 w4:=by
 have hsl:=h.len;have hlen:((toI s).map (Value.int .u8)).length=n:=by rw[List.length_map,toI_length,hsl]
 obtain⟨ad,rfl,hsrc⟩:=h.source (by rw[hlen];exact hn);have hr:=run_copy_row (P:=Tryz.prog) w 42 42 3 5 g 0 128 128 ad n cap _ _ ((toI s).map (Value.int .u8)) Tryz.underlying42 info_one hp
  (by rw[hlen];exact(Nat.min_eq_left hn2).symm) hsrc (by rw[hlen,List.size_toArray,List.length_map,toI_length,hl];omega) (one_cells s)
 rw[hlen] at hr;refine⟨_,hr,?_,fun B w0 hb hB=>below_setRow hb hB _⟩;have h2:=setRow_heap w g _ ((((toI raw).map (Value.int .u8)).take 0++(toI s).map (Value.int .u8)++((toI raw).map (Value.int .u8)).drop (0+n)).toArray) _ (0,0) hp;unfold Page;rw[←toI_splice,splice,hlen,←List.append_assoc];exact h2
def PackPost (w:World) (p:List UInt8) (e:Ending) (w':World):Prop:=
 ∃v,e=.returned (.tuple #[v,.int .i64 0])∧w'.ownsRow w.heap.size 5 1 v 128 ((toI p).map (Value.int .u8))∧Below w.heap.size w w'
theorem pageOf_length (kind:UInt8) (l:List (List UInt8)) (h:l.length+lens l≤122):(pageOf kind l).length=128:=by
 rw[pageOf,List.length_append,beBytes_length,bodyOf_length kind _ l h]
theorem num_four (x:Nat) (w:World) (hx:x<18446744073709551616) :
 Calls Tryz.prog 64 #[.int .u64 x,.int .i64 4] w fun e w'=>∃a cap,e=.returned (.slice a 4 cap)∧Bs w' a 4 cap (beBytes x 4)∧Below w.heap.size w w':=by
 refine(num_ok x 4 w hx (by omega) (by omega)).mono ?_;rintro e w3 ⟨v,rfl,hown,hb3⟩;rw[beBytes_length] at hown;obtain⟨a5,cap5,rfl,hbs5⟩:=Bs.of_own hown;exact⟨a5,cap5,rfl,hbs5,hb3⟩
theorem own_baseC {w:World} {base b0:Nat} {e:TypeId} {size:Nat} {v:Value} {n:Nat} {xs:List Value} (h:w.ownsRow base e size v n xs) (hb:b0≤base):w.ownsRow b0 e size v n xs:=
 ⟨h.1,h.2.imp id fun⟨g,cap,cur,e,hg,r⟩=>⟨g,cap,cur,e,Nat.le_trans hb hg,r⟩⟩
theorem pack_ok (kind:UInt8) (a:Option Addr) (len cap:Nat) (l:List (List UInt8)) (w:World) (h:Bss w a len cap l) (hh:Half w) (hk:kind≠0) (hfit:len+lens l≤122) :
 Calls Tryz.prog 172 #[.int .u8 kind.toNat,.slice a len cap] w (PackPost w (pageOf kind l)):=by
 have hll:=Hd h.1;have hk':((kind.toNat:Int) == 0)=false:=by
  exact qad665f
 have hf2:decide ((122:Int)<(len:Int)+(lens l:Int))=false:=by simp;omega
 have hn8:(len:Int) % 256=(len:Int):=by omega
 have hk8:=kind.toNat_lt;go_enter Tryz.func172,Tryz.ntmps172;go_wp2_with fail;refine(csize_any a len cap l w h (by omega)).mono ?_;rintro e w' ⟨rfl,rfl⟩;go_wp2_with fail;have hp2:Page (w.alloc (.cells ((Tryz.zeroCells121.setIfInBounds 4 (.int .u8 (kind.toNat:Int))).setIfInBounds 5 (.int .u8 (len:Int))) 121)) w.heap.size (rawOf kind len []):=by
  unfold Page;rw[World.alloc_heap_new,rawOf_nil,zero_cells];have e4:(UInt8.ofNat len).toNat=len:=by rw[UInt8.toNat_ofNat'];omega
  simp only[toI,List.map_set,e4,List.setIfInBounds_toArray]
 have HP2:=Hd hp2;have hB2:=(Below.refl w.heap.size w).alloc (Nat.le_refl _) (.cells ((Tryz.zeroCells121.setIfInBounds 4 (.int .u8 (kind.toNat:Int))).setIfInBounds 5 (.int .u8 (len:Int))) 121);clear hp2;generalize w.alloc (.cells ((Tryz.zeroCells121.setIfInBounds 4 (.int .u8 (kind.toNat:Int))).setIfInBounds 5 (.int .u8 (len:Int))) 121)=w2 at *
 go_loopw [7,25] (fun e i wr=>∃k:Nat,k≤len∧i=.int .i64 k∧e=.int .i64 ((128-lens (l.take k):Nat):Int)∧Page wr w.heap.size (rawOf kind len (l.take k))∧Below w.heap.size w wr) (fun _ i _=>len-(intOf i).toNat)
 case atStart=>exact⟨0,Nat.zero_le _,rfl,rfl,HP2.out,hB2⟩
 case round=>
  obtain⟨k,hk,rfl,rfl,hp,hb⟩:=hrel
  by_cases hlt:k<len
  ·obtain⟨b,off,a',n',cap',rfl,hbb,hcell,hbs⟩:=(h.below (Nat.le_refl _) hb).at hlt
   have hm:=lens_take_le l (k+1);have hs:=lens_take_succ l k (by rw[hll.out];exact hlt);have hrl:=rawOf_length kind len (l.take k) (by rw[List.length_take,hll.out];have:=lens_take_le l k;omega);have hst:=raw_step kind len (l.take k) (l[k]?.getD []) (by rw[List.length_take,hll.out];omega);rw[←take_snoc l k [] (by rw[hll.out];exact hlt),List.length_take,hll.out,Nat.min_eq_left hk] at hst;have hcl:=hbs.len;obtain⟨c,hc⟩:∃c,c=l[k]?.getD []:=⟨_,rfl⟩
   rw[←hc] at hbs hst hs hcl;obtain⟨q,hq⟩:∃q,q=128-lens (l.take k):=⟨_,rfl⟩
   rw[←hq] at hst ⊢;rw[hcl] at hst hs;have HQ:=Hd hq;have HC:=Hd hcl;clear hc hq hcl;have HST:=Hd hst;have HRL:=Hd hrl;have HM:=Hd hm;have HS:=Hd hs;have hsub:(q:Int)-(n':Int)=((q-n':Nat):Int):=by have:=HQ.out;omega
   clear hst hrl hm hs;have hqe:6≤q-n'∧q-n'<9223372036854775808∧q-n'≤128:=by have:=HQ.out;have:=HM.out;have:=HS.out;omega
   obtain⟨e,he⟩:∃e,e=q-n':=⟨_,rfl⟩
   rw[←he] at hsub hqe HST;obtain⟨a2,ha2,hsl⟩:=page_from w.heap.size e hqe.2.2;have HE:=Hd he;have h256:(e:Int) % 256=(e:Int):=by omega
   clear he;have hqn:e+n'≤128:=by have:=HQ.out;have:=HM.out;have:=HS.out;have:=HE.out;omega
   have HP:=Hd hp;have HMIN:=Hd (show((toI c).map (Value.int .u8)).length=Nat.min n' (128-e) by rw[List.length_map,toI_length,HC.out];exact(Nat.min_eq_left (by omega)).symm);have HFIT:=Hd (show e+((toI c).map (Value.int .u8)).length≤((toI (rawOf kind len (l.take k))).map (Value.int .u8)).length by rw[List.length_map,toI_length,HC.out,List.length_map,toI_length,HRL.out];exact hqn);have HPOS:=Hd (show 0<((toI c).map (Value.int .u8)).length→(some a2:Option Addr)=some ⟨w.heap.size,e,none⟩∧∃ad,a'=some ad∧∀j v,((toI c).map (Value.int .u8))[j]? = some v→wr.cell? (ad.add j)=some v from fun hpos=>⟨congrArg some (ha2 (by rw[List.length_map,toI_length,HC.out] at hpos;omega)),hbs.source hpos⟩);clear hp
   go_wp2_with (refine wpList_copy_splice rfl _ _ 42 42 rfl 5 Tryz.underlying42 info_one (some a2) a' (128-e) (128-e) n' cap' rfl rfl w.heap.size e ((toI (rawOf kind len (l.take k))).map (Value.int .u8)) 121 HP.out ((toI c).map (Value.int .u8)) HMIN.out HPOS.out HFIT.out (one_cells c) w.heap.size w hb (Nat.le_refl _) ?_)
   intro w3 HG hB3;have hg3:Page w3 w.heap.size (splice (rawOf kind len (l.take k)) e c):=by
    have:=HG.out;rw[toI_splice] at this;exact this
   clear HG;have hlen3:(splice (rawOf kind len (l.take k)) e c).length=128:=by
    rw[length_splice _ _ _ (by rw[HRL.out,HC.out];exact hqn),HRL.out]
   have hc6:=hg3.cell (i:=6+k) (by rw[hlen3];omega);have hf6:=hg3.frozen (6+k);have hset:=hg3.set (6+k) e (by omega);rw[HST.out] at hset;have HSET:=Hd hset;have HB:Hid (Below w.heap.size w (w3.setCell ⟨w.heap.size,6+k,none⟩ (.int .u8 (e:Int)))):=Hd (hB3.setCell (Nat.le_refl w.heap.size) _);clear hset hg3 hlen3
   go_wp2
   go_roundw
   case rel=>exact⟨k+1,by omega,by go_num,by have:=HQ.out;have:=HE.out;have:=HS.out;go_num,HSET.out,HB.out⟩
   case measure=>simp[intOf];omega
  ·obtain rfl:k=len:=by omega
   have hx:l.take k=l:=List.take_of_length_le (by rw[hll.out];exact Nat.le_refl _);rw[hx] at hp ⊢;have hl:=rawOf_length kind k l (by rw[hll.out];exact hfit);have HW:=hh.below (Nat.le_refl _) hb;obtain⟨a4,ha4,hs4'⟩:=page_from w.heap.size 4 (by omega);obtain rfl:=ha4 (by omega);have hrow4:Bs wr (some ⟨w.heap.size,4,none⟩) 124 124 (bodyOf kind k l):=hp.rest hl (by omega) ha4;have hsum:=crcOn_lt 0 (bodyOf kind k l);have HPG:=Hd (show splice (rawOf kind k l) 0 (beBytes (crcOf (bodyOf kind k l)) 4)=pageOf kind l by rw[raw_sum _ _ _ _ (beBytes_length _ _),pageOf,hll.out]);have HPL:=Hd (pageOf_length kind l (by rw[hll.out];exact hfit));have hc:=crcOf_any (some ⟨w.heap.size,4,none⟩) 124 124 (bodyOf kind k l) wr.drew (hrow4.drewN 1) (show Half wr.drew from HW);change crcOf _<_ at hsum;generalize crcOf (bodyOf kind k l)=s at *;have hw64:(s:Int) % 18446744073709551616=(s:Int):=by omega
   have hw64':IntKind.u64.wrap (s:Int)=(s:Int):=by simp[IntKind.wrap,IntKind.signed,IntKind.bits];omega
   have hn:=num_four s wr.drew (by omega);have HP:=Hd (show Page wr.drew w.heap.size (rawOf kind k l) from hp);have HBB:=Hd (show Below w.heap.size w wr.drew from hb.drew);have HLT:=Hd (show w.heap.size<wr.drew.heap.size from(Array.getElem?_eq_some_iff.1 hp).1);clear hx hs4' hrow4 hh HW hp hb;generalize 128-lens l=e at *;go_wp2_with fail
   go_region_with (first|(go_at_call 69;refine hc.mono ?_;rintro e w2 ⟨rfl,rfl⟩)|(go_at_call 64;refine hn.mono ?_;rintro e w3 ⟨a5,cap5,rfl,hbs5,hb3⟩;have hp3:Page w3 w.heap.size (rawOf kind k l):=(hb3.block _ HLT.out).trans HP.out;obtain⟨w4,hcp,hpg4,hB4⟩:=copy_sum hp3 hl hbs5 (by omega) (by omega)))
   all_goals
    have hB:=hB4 _ _ (below_then HBB.out hb3) (Nat.le_refl _);rw[HPG.out] at hpg4;have hrow:=hpg4.row HPL.out;have hz:=hB.size;go_wp2_with fail;refine(bclone_any (some ⟨w.heap.size,0,none⟩) 128 128 (pageOf kind l) w4 hrow (by omega)).mono ?_;rintro e w5 ⟨v,rfl,hown,hb5⟩;rw[HPL.out] at hown;have hown:=own_baseC hown hz
    go_wp2
    go_ret2
    exact⟨v,rfl,hown,below_then hB hb5⟩
theorem pack_zero (a:Option Addr) (len cap:Nat) (w:World) :
 Calls Tryz.prog 172 #[.int .u8 0,.slice a len cap] w fun e w'=>e=.returned (.tuple #[.slice none 0 0,.int .i64 1])∧w=w':=by
 go_enter Tryz.func172,Tryz.ntmps172
 go_wp2
 go_ret2
 exact⟨rfl,rfl⟩
theorem pack_big (kind:UInt8) (a:Option Addr) (len cap:Nat) (l:List (List UInt8)) (w:World) (h:Bss w a len cap l) (hk:kind≠0) (hfit:122<len+lens l) (hb:len+lens l≤9223372036854775807) :
 Calls Tryz.prog 172 #[.int .u8 kind.toNat,.slice a len cap] w fun e w'=>e=.returned (.tuple #[.slice none 0 0,.int .i64 1])∧w=w':=by
 have hk':((kind.toNat:Int) == 0)=false:=by
  exact qad665f
 have hf2:decide ((122:Int)<(len:Int)+(lens l:Int))=true:=by simp;omega
 go_enter Tryz.func172,Tryz.ntmps172;go_wp2_with fail;refine(csize_any a len cap l w h hb).mono ?_;rintro e w' ⟨rfl,rfl⟩
 go_wp2
 go_ret2
 exact⟨rfl,rfl⟩
def fits (kind:UInt8) (l:List (List UInt8)):Bool:=kind != 0 && decide (l.length+lens l≤122)
def packV (kind:UInt8) (l:List (List UInt8)):List UInt8:=if fits kind l then pageOf kind l else []
def packE (kind:UInt8) (l:List (List UInt8)):Int:=if fits kind l then 0 else 1
def PackAny (w:World) (p:List UInt8) (er:Int) (e:Ending) (w':World):Prop:=
 ∃v,e=.returned (.tuple #[v,.int .i64 er])∧w'.ownsRow w.heap.size 5 1 v p.length ((toI p).map (Value.int .u8))∧Below w.heap.size w w'
theorem pack_any (kind:UInt8) (a:Option Addr) (len cap:Nat) (l:List (List UInt8)) (w:World) (h:Bss w a len cap l) (hh:Half w) (hb:len+lens l≤9223372036854775807) :
 Calls Tryz.prog 172 #[.int .u8 kind.toNat,.slice a len cap] w (PackAny w (packV kind l) (packE kind l)):=by
 have hl:=h.1
 by_cases hk:kind=0
 ·subst hk
  refine(pack_zero a len cap w).mono ?_;rintro e w' ⟨rfl,rfl⟩;exact⟨_,rfl,⟨rfl,.inl ⟨rfl,rfl⟩⟩,Below.refl _ _⟩
 ·by_cases hf:len+lens l≤122
  ·have hfit:fits kind l=true:=by simp[fits,hk,hl,hf]
   refine(pack_ok kind a len cap l w h hh hk hf).mono ?_;rintro e w' ⟨v,rfl,hown,hbw⟩;refine⟨v,by rw[packE,if_pos hfit],?_,hbw⟩;rw[packV,if_pos hfit,pageOf_length kind l (by omega)];exact hown
  ·have hfit:fits kind l=false:=by simp[fits,hl];omega
   refine(pack_big kind a len cap l w h hk (by omega) hb).mono ?_;rintro e w' ⟨rfl,rfl⟩;refine⟨_,by rw[packE,hfit];rfl,?_,Below.refl _ _⟩;rw[packV,hfit];exact⟨rfl,.inl ⟨rfl,rfl⟩⟩
open Go.RowKit
theorem Strs.below {w w':World} {a:Option Addr} {len cap:Nat} {l:List (List UInt8)} {B:Nat} (hB:w.heap.size≤B) (hb:Below B w w') (h:Strs w a len cap l):Strs w' a len cap l:=TabR.below hB hb h
theorem rsize_any (a:Option Addr) (len cap:Nat) (l:List (List UInt8)) (w:World) (h:Strs w a len cap l) (hb:len+lens l≤9223372036854775807) :
 Calls Tryz.prog 184 #[.slice a len cap] w fun e w'=>e=.returned (.int .i64 ((len+lens l:Nat):Int))∧w=w':=by
 have hll:=Hd h.1;have hm:=h.2.2.1;have hc:=h.2.1;unfold maxLen at hm;go_enter Tryz.func184,Tryz.ntmps184
 go_wp2
 go_loop [3,4] (fun s i=>∃k:Nat,k≤len∧i=.int .i64 k∧s=.int .i64 ((k+lens (l.take k):Nat):Int)) (fun _ i=>len-(intOf i).toNat)
 case atStart=>exact⟨0,Nat.zero_le _,rfl,by simp[lens]⟩
 case round=>
  obtain⟨k,hk,rfl,rfl⟩:=hrel
  by_cases hlt:k<len
  ·obtain⟨b,off,rfl,hbb,hcell⟩:=h.at hlt
   have hst:=lens_take_succ l k (by rw[hll.out];exact hlt);have hle:=lens_take_le l (k+1);have hsz:=strOf_size (l[k]?.getD []);generalize l[k]?.getD []=c at *;have hst2:k+1+lens (l.take (k+1))=k+lens (l.take k)+(c.length+1):=by omega
   have hle2:k+lens (l.take k)+(c.length+1)≤9223372036854775807:=by omega
   have H:=Hd hst2;clear hst hst2 hle;generalize k+lens (l.take k)=q at *;exact q931089
  ·obtain rfl:k=len:=by omega
   exact q7b2129
def StrPost (w:World) (p:List UInt8) (er:Int) (e:Ending) (w':World):Prop:=e=.returned (.tuple #[.string (strOf p),.int .i64 er])∧Below w.heap.size w w'
theorem conv_nat {P:Program} {W:World} {src e dst t:TypeId} (hs:P.underlying src=some (.slice e)) (he:P.underlying e=some (.int .u8)) (hd:P.underlying dst=some .string) (n:Nat) (hn:n<256) :
 (convert src dst (.slice (some ⟨W.heap.size,0,none⟩) 1 1)).run P (W.alloc (.cells #[.int .u8 (n:Int)] t))=.ok (.string (strOf [UInt8.ofNat n])) (W.alloc (.cells #[.int .u8 (n:Int)] t)):=by
 have h:=conv_one (W:=W) (t:=t) hs he hd (UInt8.ofNat n);have e2:(UInt8.ofNat n).toNat=n:=by rw[UInt8.toNat_ofNat'];omega
 rw[e2] at h;exact h
theorem conv_two {P:Program} {W:World} {src e dst t:TypeId} (hs:P.underlying src=some (.slice e)) (he:P.underlying e=some (.int .u8)) (hd:P.underlying dst=some .string) (b:UInt8) (n:Nat) (hn:n<256) :
 (convert src dst (.slice (some ⟨W.heap.size,0,none⟩) 2 2)).run P (W.alloc (.cells #[.int .u8 (b.toNat:Int),.int .u8 (n:Int)] t))=.ok (.string (strOf [b,UInt8.ofNat n])) (W.alloc (.cells #[.int .u8 (b.toNat:Int),.int .u8 (n:Int)] t)):=by
 have e2:(UInt8.ofNat n).toNat=n:=by rw[UInt8.toNat_ofNat'];omega
 have h:=conv_string hs he hd (show Bs _ _ _ _ [b,UInt8.ofNat n] from Row.made .u8 W t [(b.toNat:Int),((UInt8.ofNat n).toNat:Int)] rfl (by unfold maxLen;simp));rw[e2] at h;exact h
theorem rpack_ok (kind:UInt8) (a:Option Addr) (len cap:Nat) (l:List (List UInt8)) (w:World) (h:Strs w a len cap l) (hk:kind≠0) (hfit:len+lens l≤122) :
 Calls Tryz.prog 169 #[.int .u8 kind.toNat,.slice a len cap] w (StrPost w (pageOf kind l) 0):=by
 have hll:=Hd h.1;have hk':((kind.toNat:Int) == 0)=false:=by
  exact qad665f
 have hf2:decide ((122:Int)<(len:Int)+(lens l:Int))=false:=by simp;omega
 have hn8:(len:Int) % 256=(len:Int):=by omega
 go_enter Tryz.func169,Tryz.ntmps169;go_wp2_with fail;refine(rsize_any a len cap l w h (by omega)).mono ?_;rintro e w' ⟨rfl,rfl⟩
 go_wp2
 go_loopw [6,7,8] (fun s b i wr=>∃k:Nat,k≤len∧i=.int .i64 k∧s=.string (strOf (slotsOf 128 (l.take k)))∧b=.string (strOf (backOf (l.take k)))∧Below w.heap.size w wr) (fun _ _ i _=>len-(intOf i).toNat)
 case atStart=>exact⟨0,Nat.zero_le _,rfl,rfl,rfl,Below.refl _ _⟩
 case round=>
  obtain⟨k,hk,rfl,rfl,rfl,hb⟩:=hrel
  by_cases hlt:k<len
  ·obtain⟨b,off,rfl,hbb,hcell⟩:=(h.below (Nat.le_refl _) hb).at hlt
   have hm:=lens_take_le l (k+1);have hs:=lens_take_succ l k (by rw[hll.out];exact hlt);have hts:=take_snoc l k [] (by rw[hll.out];exact hlt);have hbk:backOf (l.take (k+1))=l[k]?.getD []++backOf (l.take k):=by rw[hts,backOf_append,backOf_one]
   have hsl:slotsOf 128 (l.take (k+1))=slotsOf 128 (l.take k)++[UInt8.ofNat (128-lens (l.take (k+1)))]:=by
    rw[hs,hts,slotsOf_append];simp[slotsOf,Nat.sub_sub]
   have hbl:=backOf_length (l.take (k+1));have hbl0:=backOf_length (l.take k);have hsl0:=slotsOf_length (l.take k) 128;rw[List.length_take] at hsl0;obtain⟨e,he⟩:∃e,e=128-lens (l.take (k+1)):=⟨_,rfl⟩
   rw[←he] at hsl;have he8:(128:Int)-(lens (l.take (k+1)):Int)=(e:Int):=by omega
   have he6:e≤128:=by omega
   have h256:(e:Int) % 256=(e:Int):=by omega
   have hm1:lens (l.take (k+1))≤122:=by omega
   generalize l[k]?.getD []=c at *;generalize backOf (l.take k)=bk at *;generalize hbe:backOf (l.take (k+1))=bk1 at *;generalize slotsOf 128 (l.take k)=sl at *;generalize hse:slotsOf 128 (l.take (k+1))=sl1 at *;have HBE:=Hd hbe;have HSE:=Hd hse;clear hbe hse;have hcl:c.length+bk.length≤122:=by omega
   have hsz1:(strOf bk1).size=lens (l.take (k+1)):=by rw[strOf_size];exact hbl
   have hap:=strOf_append c bk;rw[←hbk] at hap;have hbnd:(strOf c).size+(strOf bk).size≤9223372036854775807:=by rw[strOf_size,strOf_size];omega
   have hap2:=strOf_append sl [UInt8.ofNat e];rw[←hsl] at hap2;have hbnd2:(strOf sl).size+(strOf [UInt8.ofNat e]).size≤9223372036854775807:=by rw[strOf_size,strOf_size];simp;omega
   have hcv:=conv_nat (W:=wr) (t:=5) Tryz.underlying42 Tryz.underlying5 Tryz.underlying9 e (by omega);have HB:=Hd (hb.alloc hb.size (.cells #[.int .u8 (e:Int)] 5));clear hs hts hbk hsl hbl hbl0 hsl0 he hm hb;generalize lens (l.take (k+1))=q at *;generalize UInt8.ofNat e=ub at *
   go_wp2
   go_roundw
   case rel=>exact⟨k+1,by omega,by go_num,by rw[HSE.out],by rw[HBE.out],HB.out⟩
   case measure=>simp[intOf];omega
  ·obtain rfl:k=len:=by omega
   have hx:l.take k=l:=List.take_of_length_le (by rw[hll.out];exact Nat.le_refl _);rw[hx];have hsl:=slotsOf_length l 128;have hbl:=backOf_length l;rw[hll.out] at hsl;have HPG:=Hd (show pageOf kind l=beBytes (crcOf (bodyOf kind k l)) 4++bodyOf kind k l by rw[pageOf,hll.out]);have hbody:bodyOf kind k l=[kind,UInt8.ofNat k]++slotsOf 128 l++(List.replicate (122-k-lens l) 0++backOf l):=by rw[bodyOf,hll.out];simp
   have hlb:=bodyOf_length kind k l (by rw[hll.out];exact hfit);generalize bodyOf kind k l=bd at *;generalize slotsOf 128 l=sl at *;generalize backOf l=bk at *;obtain⟨z,hz⟩:∃z,z=122-k-lens l:=⟨_,rfl⟩
   rw[←hz] at hbody;obtain⟨hd,hhd⟩:∃hd,hd=[kind,UInt8.ofNat k]++sl:=⟨_,rfl⟩
   rw[←hhd] at hbody;have hap1:=strOf_append [kind,UInt8.ofNat k] sl;rw[←hhd] at hap1;have hap2:=strOf_append (List.replicate z 0) bk;obtain⟨zb,hzb⟩:∃zb,zb=List.replicate z 0++bk:=⟨_,rfl⟩
   rw[←hzb] at hbody hap2;have hap3:=strOf_append hd zb;rw[←hbody] at hap3;have hcv:=conv_two (W:=wr) (t:=5) Tryz.underlying42 Tryz.underlying5 Tryz.underlying9 kind k (by omega);obtain⟨s1,hs1,hs1'⟩:∃s1,(strOf hd).size=s1∧s1=2+k:=⟨_,rfl,by rw[strOf_size,hhd];simp[hsl];omega⟩
   obtain⟨s2,hs2,hs2'⟩:∃s2,(strOf bk).size=s2∧s2=lens l:=⟨_,rfl,by rw[strOf_size];exact hbl⟩
   have hz2:(124:Int)-(s1:Int)-(s2:Int)=(z:Int):=by omega
   have hz3:z≤122:=by omega
   have hs12:s1≤124∧s2≤122:=by omega
   have hbn1:(strOf [kind,UInt8.ofNat k]).size+(strOf sl).size≤9223372036854775807:=by rw[strOf_size,strOf_size];simp;omega
   have hbn2:(strOf (List.replicate z (0:UInt8))).size+(strOf bk).size≤9223372036854775807:=by rw[strOf_size,hs2];simp;omega
   have hbn3:(strOf hd).size+(strOf zb).size≤9223372036854775807:=by rw[hs1,strOf_size,hzb];simp;omega
   obtain⟨rz,hrz⟩:∃rz,rz=List.replicate z (0:UInt8):=⟨_,rfl⟩
   rw[←hrz] at hap2 hbn2;have HRZ:=Hd hrz;have HLB:=Hd hlb;obtain⟨i0,hi,hz0,hz1,hz2'⟩:=info_parts info_u8;have hB2:=hb.alloc hb.size (.cells #[.int .u8 (kind.toNat:Int),.int .u8 (k:Int)] 5);have HSZ:=Hd hb.size;generalize hU:UInt8.ofNat k=ub at *;clear hU hhd hzb hbody hx hz hlb hrz hsl hbl hs1' hs2'
   go_wp2_with (at_make;refine wpList_make_full _ rfl _ _ 42 rfl w.heap.size 5 i0 _ 1 Tryz.underlying42 hi hz0 hz1 .i64 .i64 _ _ z rfl rfl rfl rfl (by rw[hz2'];omega) (by unfold maxLen;omega) (by have:=HSZ.out;simp;omega) ?_)
   intro w2 hown hg;have hown':w2.ownsRow w.heap.size 5 1 (.slice (some ⟨wr.heap.size+1,0,none⟩) z z) z ((toI rz).map (Value.int .u8)):=by
    simp only[made_list] at hown;rw[HRZ.out];simpa[toI] using hown
   have hcv2:=conv_string Tryz.underlying42 Tryz.underlying5 Tryz.underlying9 (Bs.own hown');have HB3:=Hd (hB2.grown hg (by have:=HSZ.out;simp;omega) (fun k e=>by cases e));clear hown hown' hg hcv;have hbl:bd.length≤9223372036854775807:=by rw[HLB.out];omega
   go_wp2_with fail;refine(refOf_any bd w2 hbl).mono ?_;rintro e w3 ⟨rfl,rfl⟩;have hsum:=crcOn_lt 0 bd;change crcOf bd<_ at hsum;generalize hS:crcOf bd=s at *;have HS:=Hd hS;clear hS;have hw64:(s:Int) % 18446744073709551616=(s:Int):=by omega
   go_wp2_with fail;refine(refNum_ok s 4 w2 (by omega) (by omega) (by omega)).mono ?_;rintro e w4 ⟨rfl,hb4⟩;have hap4:=strOf_append (beBytes s 4) bd;have hbn4:(strOf (beBytes s 4)).size+(strOf bd).size≤9223372036854775807:=by rw[strOf_size,strOf_size,beBytes_length,HLB.out];omega
   have HPG2:=Hd (show pageOf kind l=beBytes s 4++bd from HPG.out);generalize beBytes s 4=s4 at *;generalize s4++bd=pg at *
   go_wp2
   go_ret2
   exact⟨by rw[HPG2.out];rfl,below_then HB3.out hb4⟩
theorem rpack_zero (a:Option Addr) (len cap:Nat) (w:World) :
 Calls Tryz.prog 169 #[.int .u8 0,.slice a len cap] w fun e w'=>e=.returned (.tuple #[.string (strOf []),.int .i64 1])∧w=w':=by
 go_enter Tryz.func169,Tryz.ntmps169
 go_wp2
 go_ret2
 exact⟨rfl,rfl⟩
theorem rpack_big (kind:UInt8) (a:Option Addr) (len cap:Nat) (l:List (List UInt8)) (w:World) (h:Strs w a len cap l) (hk:kind≠0) (hfit:122<len+lens l) (hb:len+lens l≤9223372036854775807) :
 Calls Tryz.prog 169 #[.int .u8 kind.toNat,.slice a len cap] w fun e w'=>e=.returned (.tuple #[.string (strOf []),.int .i64 1])∧w=w':=by
 have hk':((kind.toNat:Int) == 0)=false:=by
  exact qad665f
 have hf2:decide ((122:Int)<(len:Int)+(lens l:Int))=true:=by simp;omega
 go_enter Tryz.func169,Tryz.ntmps169;go_wp2_with fail;refine(rsize_any a len cap l w h hb).mono ?_;rintro e w' ⟨rfl,rfl⟩
 go_wp2
 go_ret2
 exact⟨rfl,rfl⟩
theorem rpack_any (kind:UInt8) (a:Option Addr) (len cap:Nat) (l:List (List UInt8)) (w:World) (h:Strs w a len cap l) (hb:len+lens l≤9223372036854775807) :
 Calls Tryz.prog 169 #[.int .u8 kind.toNat,.slice a len cap] w (StrPost w (packV kind l) (packE kind l)):=by
 have hl:=h.1
 by_cases hk:kind=0
 ·subst hk
  refine(rpack_zero a len cap w).mono ?_;rintro e w' ⟨rfl,rfl⟩;exact⟨rfl,Below.refl _ _⟩
 ·by_cases hf:len+lens l≤122
  ·have hfit:fits kind l=true:=by simp[fits,hk,hl,hf]
   rw[packV,packE,if_pos hfit,if_pos hfit];exact rpack_ok kind a len cap l w h hk hf
  ·have hfit:fits kind l=false:=by simp[fits,hl];omega
   rw[packV,packE,hfit];refine(rpack_big kind a len cap l w h hk (by omega) hb).mono ?_;rintro e w' ⟨rfl,rfl⟩;exact⟨rfl,Below.refl _ _⟩
open Go.RowKit
theorem wpList_append_one {P:Program} {w:World} {ops:Array Oper} {rest:List Oper} {o:Oper} {act:Act} {Q:Exit→Act→World→Prop} (hgd:o.guard=none) (s x:Operand) (t:TypeId)
 (ho:o.op=.call { callee:=.builtin .append,args := #[s,x],argTypes := #[t,t] })
 (base:Nat) (e:TypeId) (i:TypeInfo) (z:Value) (bytes:Nat) (ht:P.underlying t=some (.slice e)) (hi:P.info? e=some i) (hz:i.zero=some z)
 (hsize:i.size=1) (hby:i.bytes=bytes) (hzs:z.cells.size=1)
 (v:Value) (n:Nat) (xs:List Value) (hs:act.eval s=v) (hown:w.ownsRow base e 1 v n xs)
 (b:Nat) (hx:act.eval x=.slice (some ⟨b,0,none⟩) 1 1) (u:Value) (hu:w.cell? ⟨b,0,none⟩=some u) (h1:u.oneCell'=true)
 (h63:n+1≤maxLen) (hbytes:(n+1)*bytes≤140737488355328) (hbase:base≤w.heap.size)
 (h:∀v' w',w'.ownsRow base e 1 v' (n+1) (xs++[u])→w.grownBy w' v.ownBlock→wpList P ops Q rest (act.put o.dst v') w'):wpList P ops Q (o::rest) act w:=by
 refine wpList_append_own w hgd s x t ho base e i z 1 bytes ht hi hz hsize hby hzs (by decide) v n xs hs hown ⟨b,0,none⟩ 1 1 [u] hx rfl ?_ (fun y hy=>by
  obtain rfl:=List.mem_singleton.1 hy;exact h1) h63 hbytes hbase fun v' w' h5 h6 _=>h v' w' h5 h6
 intro j y hj
 match j,hj with
 | 0,hj=>cases hj;simpa[Addr.add] using hu
 | j+1,hj=>simp at hj
def sv (c:List UInt8):Value:=.string (strOf c)
def OwnStrs (w:World) (l:List (List UInt8)) (e:Ending) (w':World):Prop:=
 ∃v,e=.returned v∧w'.ownsRow w.heap.size 9 1 v l.length (l.map sv)∧Below w.heap.size w w'
theorem Strs.of_own {w:World} {base:Nat} {v:Value} {n:Nat} {l:List (List UInt8)} (h:w.ownsRow base 9 1 v n (l.map sv)) :
 ∃a cap,v=.slice a n cap∧Strs w a n cap l:=by
 obtain⟨h1,h2⟩:=h;simp only[List.length_map,Nat.mul_one] at h1
 rcases h2 with⟨rfl,rfl⟩|⟨g,cap,cur,rfl,hb,hg,hn,hm,hc,ht⟩
 ·exact⟨none,0,rfl,h1,Nat.le_refl _,by unfold maxLen;omega,fun _=>rfl,.inl rfl⟩
 ·refine⟨_,cap,rfl,h1,hn,hm,(fun h=>by cases h),.inr ⟨g,0,rfl,(Array.getElem?_eq_some_iff.1 hg).1,fun i y hy=>⟨[sv y],rfl,rfl,fun j u hu=>?_⟩⟩⟩
  have hi:=(List.getElem?_eq_some_iff.1 hy).1
  match j,hu with
  | 0,hu=>
   cases hu;simp only[World.cell?,hg,Nat.zero_add,Nat.mul_one,Nat.add_zero];have e:(cur.toList.take (n*1))[i]? = cur.toList[i]? := List.getElem?_take_of_lt (by omega);rw[ht] at e;rw[←Array.getElem?_toList,←e];simp[hy]
  | j+1,hu=>simp at hu
theorem info_str:(Tryz.prog.info? 9).map (fun i=>(i.zero,i.size,i.bytes))=some (some (.string ByteArray.empty),1,16):=by kernel_rfl
open Go.RowKit
theorem take_any (a:Option Addr) (len cap:Nat) (l:List UInt8) (w:World) (h:Bs w a len cap l) (hreach:len≤140737488351232) :
 Calls Tryz.prog 56 #[.slice a len cap] w fun e w'=>e=.returned (.pointer (some ⟨w'.heap.size-1,0,none⟩))∧Tk w' (w'.heap.size-1) ⟨l,0⟩∧w.heap.size≤w'.heap.size-1∧Below w.heap.size w w':=by
 have hll:=Hd h.len;go_enter Tryz.func56,Tryz.ntmps56;go_wp2_with fail;refine(clone_any a len cap l w h hreach).mono ?_;rintro e w1 ⟨v,rfl,hown,hb⟩;obtain⟨a2,cap2,rfl,hbs⟩:=Bs.of_own hown;clear hown
 go_wp2
 go_ret;have hs:=hb.size;refine⟨by simp,⟨a2,cap2,?_,hbs.below (Nat.le_refl _) ((Below.refl _ _).alloc (Nat.le_refl _) _)⟩,by simp;omega,hb.alloc hs _⟩;have:=World.alloc_heap_new w1 (.cells #[.slice a2 l.length cap2,.int .i64 0] 231);simpa using this
theorem some_u64_err (t:Nat) (s:TSt) (n:Int) (w:World) (h:Tk w t s) (he:s.e≠0) :
 Calls Tryz.prog 105 #[.pointer (some ⟨t,0,none⟩),.int .i64 n,.func (.func 106) #[] #[]] w fun e w'=>e=.returned (.int .u64 0)∧w=w':=by
 obtain⟨a,cap,hblk,hbs⟩:=h;have hc1:w.cell? ⟨t,1,none⟩=some (.int .i64 s.e):=by simp[World.cell?,hblk]
 have hne:(s.e == 0)=false:=by simpa using he
 have hne':(s.e != 0)=true:=by simpa using he
 clear he;generalize s.e=er at *;go_enter Tryz.func105,Tryz.ntmps105;exact q72c811
theorem some_u64_any (t:Nat) (s:TSt) (n:Nat) (w:World) (h:Tk w t s) (h8:n≤8) (hreach:s.l.length≤140737488351232) :
 Calls Tryz.prog 105 #[.pointer (some ⟨t,0,none⟩),.int .i64 n,.func (.func 106) #[] #[]] w (TkPost w t (fun _ v=>v=.int .u64 (beVal (takeF s n).1)) (takeF s n).2):=by
 by_cases he:s.e≠0
 ·refine(some_u64_err t s n w h he).mono ?_
  exact q68dd29
 ·obtain⟨sl,se⟩:=s
  obtain rfl:se=0:=by simpa using he
  clear he;have hT:=h;obtain⟨a,cap,hblk,hbs⟩:=h;dsimp only at hbs hblk hreach;have hc0:w.cell? ⟨t,0,none⟩=some (.slice a sl.length cap):=by simp[World.cell?,hblk]
  have hc1:w.cell? ⟨t,1,none⟩=some (.int .i64 0):=by simp[World.cell?,hblk]
  have hf0:w.frozen? ⟨t,0,none⟩=false:=by simp[World.frozen?,hblk]
  have hf1:w.frozen? ⟨t,1,none⟩=false:=by simp[World.frozen?,hblk]
  have hm:=hbs.cap;unfold maxLen at hm
  by_cases hlt:sl.length<n
  ·have hts:takeF ⟨sl,0⟩ n=([],⟨sl,10⟩):=by simp[takeF,hlt]
   rw[hts];clear hts;have hnew:Tk (w.setCell ⟨t,1,none⟩ (.int .i64 10)) t ⟨sl,10⟩:=
    ⟨a,cap,heap_setCell_at 1 (.int .i64 10) hblk,hbs.grown (grown_setCell _ _ _) (bs_ne hblk hbs)⟩
   have hgr:=grown_setCell w ⟨t,1,none⟩ (.int .i64 10);clear hblk hbs hT;go_enter Tryz.func105,Tryz.ntmps105;exact q11f35a
  ·have hts:takeF ⟨sl,0⟩ n=(sl.take n,⟨sl.drop n,0⟩):=by simp[takeF,hlt]
   rw[hts];clear hts;obtain⟨a2,ha2,hsl⟩:=slice_from elem_bytes size_bytes a sl.length cap n (by omega);have q1:=hbs.take n (by omega);have q2:=hbs.drop n (by omega);rw[←ha2] at q2;clear ha2;have hgr:=grown_setCell w ⟨t,0,none⟩ (.slice a2 (sl.length-n) (cap-n));have hnew:Tk (w.setCell ⟨t,0,none⟩ (.slice a2 (sl.length-n) (cap-n))) t ⟨sl.drop n,0⟩:=
    ⟨a2,cap-n,by rw[List.length_drop];exact heap_setCell_at 0 (.slice a2 (sl.length-n) (cap-n)) hblk,by rw[List.length_drop];exact q2.grown hgr (bs_ne hblk q2)⟩
   have q1':=q1.grown hgr (bs_ne hblk q1);clear hblk hbs hT q1 q2;go_enter Tryz.func105,Tryz.ntmps105;go_wp2_with fail;refine(num1_any _ _ _ _ _ q1' h8).mono ?_;rintro e w2 ⟨rfl,rfl⟩;exact q11f35a
theorem some_str_err (t:Nat) (s:TSt) (n:Int) (w:World) (h:Tk w t s) (he:s.e≠0) :
 Calls Tryz.prog 107 #[.pointer (some ⟨t,0,none⟩),.int .i64 n,.func (.func 108) #[] #[]] w fun e w'=>e=.returned (.string (strOf []))∧w=w':=by
 obtain⟨a,cap,hblk,hbs⟩:=h;have hc1:w.cell? ⟨t,1,none⟩=some (.int .i64 s.e):=by simp[World.cell?,hblk]
 have hne:(s.e == 0)=false:=by simpa using he
 have hne':(s.e != 0)=true:=by simpa using he
 clear he;generalize s.e=er at *;go_enter Tryz.func107,Tryz.ntmps107;exact q72c811
theorem some_str_any (t:Nat) (s:TSt) (n:Nat) (w:World) (h:Tk w t s) (hreach:s.l.length≤140737488351232) :
 Calls Tryz.prog 107 #[.pointer (some ⟨t,0,none⟩),.int .i64 n,.func (.func 108) #[] #[]] w (TkPost w t (fun _ v=>v=.string (strOf (takeF s n).1)) (takeF s n).2):=by
 by_cases he:s.e≠0
 ·refine(some_str_err t s n w h he).mono ?_
  exact q68dd29
 ·obtain⟨sl,se⟩:=s
  obtain rfl:se=0:=by simpa using he
  clear he;have hT:=h;obtain⟨a,cap,hblk,hbs⟩:=h;dsimp only at hbs hblk hreach;have hc0:w.cell? ⟨t,0,none⟩=some (.slice a sl.length cap):=by simp[World.cell?,hblk]
  have hc1:w.cell? ⟨t,1,none⟩=some (.int .i64 0):=by simp[World.cell?,hblk]
  have hf0:w.frozen? ⟨t,0,none⟩=false:=by simp[World.frozen?,hblk]
  have hf1:w.frozen? ⟨t,1,none⟩=false:=by simp[World.frozen?,hblk]
  have hm:=hbs.cap;unfold maxLen at hm
  by_cases hlt:sl.length<n
  ·have hts:takeF ⟨sl,0⟩ n=([],⟨sl,10⟩):=by simp[takeF,hlt]
   rw[hts];clear hts;have hnew:Tk (w.setCell ⟨t,1,none⟩ (.int .i64 10)) t ⟨sl,10⟩:=
    ⟨a,cap,heap_setCell_at 1 (.int .i64 10) hblk,hbs.grown (grown_setCell _ _ _) (bs_ne hblk hbs)⟩
   have hgr:=grown_setCell w ⟨t,1,none⟩ (.int .i64 10);clear hblk hbs hT;go_enter Tryz.func107,Tryz.ntmps107;exact q11f35a
  ·have hts:takeF ⟨sl,0⟩ n=(sl.take n,⟨sl.drop n,0⟩):=by simp[takeF,hlt]
   rw[hts];clear hts;obtain⟨a2,ha2,hsl⟩:=slice_from elem_bytes size_bytes a sl.length cap n (by omega);have q1:=hbs.take n (by omega);have q2:=hbs.drop n (by omega);rw[←ha2] at q2;clear ha2;have hgr:=grown_setCell w ⟨t,0,none⟩ (.slice a2 (sl.length-n) (cap-n));have hnew:Tk (w.setCell ⟨t,0,none⟩ (.slice a2 (sl.length-n) (cap-n))) t ⟨sl.drop n,0⟩:=
    ⟨a2,cap-n,by rw[List.length_drop];exact heap_setCell_at 0 (.slice a2 (sl.length-n) (cap-n)) hblk,by rw[List.length_drop];exact q2.grown hgr (bs_ne hblk q2)⟩
   have q1':=q1.grown hgr (bs_ne hblk q1);clear hblk hbs hT q1 q2;go_enter Tryz.func107,Tryz.ntmps107;go_wp2_with fail;refine(text1_any _ _ _ _ _ q1' ).mono ?_;rintro e w2 ⟨rfl,rfl⟩;exact q11f35a
theorem some_bytes_err (t:Nat) (s:TSt) (n:Int) (w:World) (h:Tk w t s) (he:s.e≠0) :
 Calls Tryz.prog 208 #[.pointer (some ⟨t,0,none⟩),.int .i64 n,.func (.func 104) #[] #[]] w fun e w'=>e=.returned (.slice none 0 0)∧w=w':=by
 obtain⟨a,cap,hblk,hbs⟩:=h;have hc1:w.cell? ⟨t,1,none⟩=some (.int .i64 s.e):=by simp[World.cell?,hblk]
 have hne:(s.e == 0)=false:=by simpa using he
 have hne':(s.e != 0)=true:=by simpa using he
 clear he;generalize s.e=er at *;go_enter Tryz.func208,Tryz.ntmps208;exact q72c811
theorem some_bytes_any (t:Nat) (s:TSt) (n:Nat) (w:World) (h:Tk w t s) (hreach:s.l.length≤140737488351232) :
 Calls Tryz.prog 208 #[.pointer (some ⟨t,0,none⟩),.int .i64 n,.func (.func 104) #[] #[]] w (TkPost w t (fun w' v=>w'.ownsRow w.heap.size 5 1 v (takeF s n).1.length ((toI (takeF s n).1).map (Value.int .u8))) (takeF s n).2):=by
 by_cases he:s.e≠0
 ·refine(some_bytes_err t s n w h he).mono ?_
  rintro e w' ⟨rfl,rfl⟩;refine⟨_,rfl,?_,grown_below (Below.refl _ _) _,?_⟩
  ·simp only[takeF,if_pos he];exact⟨rfl,.inl ⟨rfl,rfl⟩⟩
  ·simp only[takeF,if_pos he];exact h
 ·obtain⟨sl,se⟩:=s
  obtain rfl:se=0:=by simpa using he
  clear he;have hT:=h;obtain⟨a,cap,hblk,hbs⟩:=h;dsimp only at hbs hblk hreach;have hc0:w.cell? ⟨t,0,none⟩=some (.slice a sl.length cap):=by simp[World.cell?,hblk]
  have hc1:w.cell? ⟨t,1,none⟩=some (.int .i64 0):=by simp[World.cell?,hblk]
  have hf0:w.frozen? ⟨t,0,none⟩=false:=by simp[World.frozen?,hblk]
  have hf1:w.frozen? ⟨t,1,none⟩=false:=by simp[World.frozen?,hblk]
  have hm:=hbs.cap;unfold maxLen at hm
  by_cases hlt:sl.length<n
  ·have hts:takeF ⟨sl,0⟩ n=([],⟨sl,10⟩):=by simp[takeF,hlt]
   rw[hts];clear hts;have hnew:Tk (w.setCell ⟨t,1,none⟩ (.int .i64 10)) t ⟨sl,10⟩:=
    ⟨a,cap,heap_setCell_at 1 (.int .i64 10) hblk,hbs.grown (grown_setCell _ _ _) (bs_ne hblk hbs)⟩
   have hgr:=grown_setCell w ⟨t,1,none⟩ (.int .i64 10);clear hblk hbs hT;go_enter Tryz.func208,Tryz.ntmps208
   go_wp2
   go_ret;exact⟨_,rfl,⟨rfl,.inl ⟨rfl,rfl⟩⟩,hgr,hnew⟩
  ·have hts:takeF ⟨sl,0⟩ n=(sl.take n,⟨sl.drop n,0⟩):=by simp[takeF,hlt]
   rw[hts];clear hts;obtain⟨a2,ha2,hsl⟩:=slice_from elem_bytes size_bytes a sl.length cap n (by omega);have q1:=hbs.take n (by omega);have q2:=hbs.drop n (by omega);rw[←ha2] at q2;clear ha2;have hgr:=grown_setCell w ⟨t,0,none⟩ (.slice a2 (sl.length-n) (cap-n));have hnew:Tk (w.setCell ⟨t,0,none⟩ (.slice a2 (sl.length-n) (cap-n))) t ⟨sl.drop n,0⟩:=
    ⟨a2,cap-n,by rw[List.length_drop];exact heap_setCell_at 0 (.slice a2 (sl.length-n) (cap-n)) hblk,by rw[List.length_drop];exact q2.grown hgr (bs_ne hblk q2)⟩
   have q1':=q1.grown hgr (bs_ne hblk q1);clear hblk hbs hT q1 q2;go_enter Tryz.func208,Tryz.ntmps208;go_wp2_with fail;refine(clone_any _ _ _ _ _ q1' (by omega)).mono ?_;rintro e w2 ⟨v,rfl,hown,hb⟩;have hsz:(w.setCell ⟨t,0,none⟩ (.slice a2 (sl.length-n) (cap-n))).heap.size=w.heap.size:=by simp[World.setCell]
   rw[hsz] at hown;have hnew':=hnew.below (Nat.le_refl _) hb;have hgr':=grown_trans hgr (grown_below hb (some t));clear hb hnew hgr hsz
   go_wp2
   go_ret;exact⟨_,rfl,hown,hgr',hnew'⟩
open Go.RowKit
theorem tErr_any (t:Nat) (s:TSt) (w:World) (h:Tk w t s) :
 Calls Tryz.prog 109 #[.pointer (some ⟨t,0,none⟩)] w fun e w'=>e=.returned (.int .i64 s.e)∧w=w':=by
 obtain⟨a,cap,hblk,hbs⟩:=h;have hc1:w.cell? ⟨t,1,none⟩=some (.int .i64 s.e):=by simp[World.cell?,hblk]
 go_enter Tryz.func109,Tryz.ntmps109;exact q72c811
theorem tDone_any (t:Nat) (s:TSt) (w:World) (h:Tk w t s) :
 Calls Tryz.prog 59 #[.pointer (some ⟨t,0,none⟩)] w fun e w'=>e=.returned (.int .i64 (tDone s))∧w=w':=by
 have hE:=tErr_any t s w h;obtain⟨a,cap,hblk,hbs⟩:=h;have hc0:w.cell? ⟨t,0,none⟩=some (.slice a s.l.length cap):=by simp[World.cell?,hblk]
 have hm:=hbs.cap;unfold maxLen at hm
 by_cases he:s.e=0
 ·have hd:tDone s=if s.l.length=0 then 0 else 11:=by simp[tDone,he]
  rw[he] at hE;have hne':((s.l.length:Int) == 0)=decide (s.l.length=0):=by
   by_cases h0:s.l.length=0<;>simp[h0]
  by_cases h0:s.l.length=0
  ·rw[if_pos h0] at hd
   have HD:=Hd hd;have hz:((s.l.length:Int) == 0)=true:=by simp[h0]
   clear hd h0 hne' he;exact q35e021
  ·rw[if_neg h0] at hd
   have HD:=Hd hd;have hz:((s.l.length:Int) == 0)=false:=by simp[h0]
   clear hd h0 hne' he;exact q35e021
 ·have HD:=Hd (show tDone s=s.e by simp[tDone,he])
  have hne:(s.e == 0)=false:=by simpa using he
  have hne':(s.e != 0)=true:=by simpa using he
  clear he;generalize s.e=er at *;exact q35e021
theorem tNum_any (t:Nat) (s:TSt) (size:Int) (w:World) (h:Tk w t s) (hreach:s.l.length≤140737488351232) :
 Calls Tryz.prog 57 #[.pointer (some ⟨t,0,none⟩),.int .i64 size] w (TkPost w t (fun _ v=>v=.int .u64 ((tNum s size).1:Int)) (tNum s size).2):=by
 have hT:=h;obtain⟨a,cap,hblk,hbs⟩:=h;have hc1:w.cell? ⟨t,1,none⟩=some (.int .i64 s.e):=by simp[World.cell?,hblk]
 have hf1:w.frozen? ⟨t,1,none⟩=false:=by simp[World.frozen?,hblk]
 by_cases he:s.e=0
 ·by_cases hsz:size<1∨8<size
  ·have hr:tNum s size=(0,{ s with e:=1 }):=by simp[tNum,he,hsz]
   rw[hr];have hnew:Tk (w.setCell ⟨t,1,none⟩ (.int .i64 1)) t { s with e:=1 }:=
    ⟨a,cap,heap_setCell_at 1 (.int .i64 1) hblk,hbs.grown (grown_setCell _ _ _) (bs_ne hblk hbs)⟩
   have hgr:=grown_setCell w ⟨t,1,none⟩ (.int .i64 1);rw[he] at hc1;clear hr hblk hbs hT he
   rcases hsz with hsz|hsz
   ·go_enter Tryz.func57,Tryz.ntmps57
    exact q11f35a
   ·have hsz':¬size<1:=by omega
    go_enter Tryz.func57,Tryz.ntmps57;exact q11f35a
  ·obtain⟨n,rfl⟩:=Int.eq_ofNat_of_zero_le (show 0≤size by omega)
   have hr:tNum s (n:Int)=(beVal (takeF s n).1,(takeF s n).2):=by simp only[tNum];rw[if_neg (fun h=>hsz h.2)];rfl
   rw[hr];have hs1:¬(n:Int)<1:=by omega
   have hs2:¬(8:Int)<(n:Int):=by omega
   have hcall:=some_u64_any t s n w hT (by omega) hreach;rw[he] at hc1;clear hr hblk hbs hT he hsz;go_enter Tryz.func57,Tryz.ntmps57;go_wp2_with fail;refine hcall.mono ?_;rintro e w' ⟨v,rfl,rfl,hgr,hnew⟩;exact q11f35a
 ·have hr:tNum s size=(0,s):=by simp[tNum,takeF,he,beVal_nil]
  rw[hr];have hcall:=some_u64_err t s size w hT he;have hne:(s.e == 0)=false:=by simpa using he
  clear hr hblk hbs he;generalize s.e=er at *;go_enter Tryz.func57,Tryz.ntmps57;go_wp2_with fail;refine hcall.mono ?_;rintro e w' ⟨rfl,rfl⟩
  go_wp2
  go_ret;exact⟨_,rfl,rfl,grown_below (Below.refl _ _) _,hT⟩
theorem takeF_len (s:TSt) (n:Nat):(takeF s n).2.l.length≤s.l.length:=by
 unfold takeF;split
 ·exact Nat.le_refl _
 ·split
  ·exact Nat.le_refl _
  ·simp
theorem tNum_len (s:TSt) (size:Int):(tNum s size).2.l.length≤s.l.length:=by
 unfold tNum;split
 ·exact Nat.le_refl _
 ·exact takeF_len _ _
theorem takeF_le (s:TSt) (n:Nat):(takeF s n).1.length≤n:=by
 unfold takeF;split
 ·simp
 ·split
  ·simp
  ·simp;omega
theorem tNum_lt (s:TSt) (k:Nat):(tNum s (k:Int)).1<256 ^ k:=by
 unfold tNum;split
 ·exact Nat.pow_pos (by decide)
 ·exact Nat.lt_of_lt_of_le (beVal_lt _) (Nat.pow_le_pow_right (by decide) (takeF_le _ _))
theorem tText_any (t:Nat) (s:TSt) (w:World) (h:Tk w t s) (hreach:s.l.length≤140737488351232) :
 Calls Tryz.prog 58 #[.pointer (some ⟨t,0,none⟩)] w (TkPost w t (fun _ v=>v=.string (strOf (tText s).1)) (tText s).2):=by
 have hlt:=tNum_lt s 1;have hlen:=tNum_len s 1;have hcall:=tNum_any t s 1 w h hreach;obtain⟨n,s1,hs⟩:∃n s1,tNum s 1=(n,s1):=⟨_,_,rfl⟩
 have hr:tText s=takeF s1 n:=by simp[tText,hs]
 have hs':tNum s ((1:Nat):Int)=(n,s1):=hs;rw[hs] at hcall hlen;rw[hs'] at hlt;rw[hr];dsimp only at hlt hlen hcall;clear hr hs hs';go_enter Tryz.func58,Tryz.ntmps58;go_wp2_with fail;refine hcall.mono ?_;rintro e w1 ⟨v,rfl,rfl,hgr,hnew⟩;go_wp2_with fail;refine(some_str_any t s1 n w1 hnew (by omega)).mono ?_;rintro e w2 ⟨v,rfl,rfl,hgr2,hnew2⟩
 go_wp2
 go_ret;exact⟨_,rfl,rfl,grown_trans hgr hgr2,hnew2⟩
theorem tRest_any (t:Nat) (s:TSt) (w:World) (h:Tk w t s) (hreach:s.l.length≤140737488351232) :
 Calls Tryz.prog 199 #[.pointer (some ⟨t,0,none⟩)] w (TkPost w t (fun w' v=>w'.ownsRow w.heap.size 5 1 v (tRest s).1.length ((toI (tRest s).1).map (Value.int .u8))) (tRest s).2):=by
 have hcall:=some_bytes_any t s s.l.length w h hreach;obtain⟨a,cap,hblk,hbs⟩:=h;have hc0:w.cell? ⟨t,0,none⟩=some (.slice a s.l.length cap):=by simp[World.cell?,hblk]
 clear hblk hbs;go_enter Tryz.func199,Tryz.ntmps199;go_wp2_with fail;refine hcall.mono ?_;rintro e w2 ⟨v,rfl,hown,hgr2,hnew2⟩
 go_wp2
 go_ret;exact⟨_,rfl,hown,hgr2,hnew2⟩
open Go.RowKit
def slotS (b:List UInt8) (i:Nat):Nat:=(b[6+i]?.getD 0).toNat
def endS (b:List UInt8):Nat→Nat
 | 0=>128
 | i+1=>slotS b i
def okSC (b:List UInt8) (n:Nat):Bool:=(List.range n).all fun i=>decide (slotS b i≤endS b i)
def cellS (b:List UInt8) (i:Nat):List UInt8:=(b.drop (slotS b i)).take (endS b i-slotS b i)
def cutS (b:List UInt8) (n:Nat):List (List UInt8):=(List.range n).map (cellS b)
def kindS (b:List UInt8):UInt8:=b[4]?.getD 0
def numS (b:List UInt8):Nat:=(b[5]?.getD 0).toNat
def unpB (b:List UInt8):Bool:=okSC b (min (numS b) 122) && (fits (kindS b) (cutS b (min (numS b) 122)) && pageOf (kindS b) (cutS b (min (numS b) 122)) == b)
def unpE (b:List UInt8):Int:=if b.length≠128 then 1 else if beVal (b.take 4)≠crcOf (b.drop 4) then 12 else if unpB b then 0 else 11
def unpK (b:List UInt8):UInt8:=if unpE b=0 then kindS b else 0
def unpL (b:List UInt8):List (List UInt8):=if unpE b=0 then cutS b (min (numS b) 122) else []
theorem okS_succ (b:List UInt8) (n:Nat):okSC b (n+1)=(okSC b n && decide (slotS b n≤endS b n)):=by
 simp[okSC,List.range_succ]
theorem cutS_succ (b:List UInt8) (n:Nat):cutS b (n+1)=cutS b n++[cellS b n]:=by
 simp[cutS,List.range_succ]
theorem cutS_length (b:List UInt8) (n:Nat):(cutS b n).length=n:=by simp[cutS]
theorem slotS_lt (b:List UInt8) (i:Nat):slotS b i<256:=(b[6+i]?.getD 0).toNat_lt
theorem okS_end (b:List UInt8) (n:Nat) (h:okSC b n=true):endS b n≤128:=by
 induction n with
 | zero=>simp[endS]
 | succ n ih=>
  rw[okS_succ,Bool.and_eq_true,decide_eq_true_eq] at h;have:=ih h.1;rw[show endS b (n+1)=slotS b n from rfl];omega
theorem okS_mono (b:List UInt8) {m n:Nat} (h:okSC b m=false) (hmn:m≤n):okSC b n=false:=by
 rw[okSC,List.all_eq_false] at h ⊢;obtain⟨x,hx,hx2⟩:=h;exact⟨x,by simp at hx ⊢;omega,hx2⟩
theorem cellS_length (b:List UInt8) (n:Nat) (hb:b.length=128) (h:okSC b (n+1)=true):(cellS b n).length=endS b n-slotS b n:=by
 have h1:=okS_end b n (by rw[okS_succ,Bool.and_eq_true] at h;exact h.1);simp[cellS];omega
theorem cutS_lens (b:List UInt8) (n:Nat) (hb:b.length=128) (h:okSC b n=true):lens (cutS b n)=128-endS b n:=by
 induction n with
 | zero=>simp[cutS,lens,endS]
 | succ n ih=>
  have h0:=h;rw[okS_succ,Bool.and_eq_true,decide_eq_true_eq] at h;have h1:=okS_end b n h.1;rw[cutS_succ,lens_append,lens_one,ih h.1,cellS_length b n hb h0,show endS b (n+1)=slotS b n from rfl];omega
def OwnBss (w:World) (base:Nat) (v:Value) (l:List (List UInt8)):Prop:=
 ∃vs,w.ownsRow base 42 1 v l.length vs∧vs.length=l.length∧∀(i:Nat) (c:List UInt8),l[i]? = some c→∃u,vs[i]? = some u∧w.ownsRow base 5 1 u c.length ((toI c).map (Value.int .u8))
theorem own_types {w:World} {b1 b2 s1 s2 n1 n2:Nat} {e1 e2:TypeId} {v1 v2:Value} {xs1 xs2:List Value} (h1:w.ownsRow b1 e1 s1 v1 n1 xs1) (h2:w.ownsRow b2 e2 s2 v2 n2 xs2) (hne:e1≠e2):v1.ownBlock=none∨v1.ownBlock≠v2.ownBlock:=by
 rcases h1.2 with⟨rfl,rfl⟩|⟨g,cap,cur,rfl,_,hg,_⟩
 ·exact .inl rfl
 ·right
  rcases h2.2 with⟨rfl,rfl⟩|⟨g2,cap2,cur2,rfl,_,hg2,_⟩
  ·intro e;cases e
  ·intro e
   have e':g=g2:=by simpa[Value.ownBlock] using e
   subst e';rw[hg] at hg2;cases hg2;exact hne rfl
theorem own_below {w w':World} {base:Nat} {e:TypeId} {size:Nat} {v:Value} {n:Nat} {xs:List Value} {B:Nat} (h:w.ownsRow base e size v n xs) (hB:w.heap.size≤B) (hb:Below B w w'):w'.ownsRow base e size v n xs:=by
 refine⟨h.1,h.2.imp id fun⟨g,cap,cur,e1,hg,hh,r⟩=>⟨g,cap,cur,e1,hg,?_,r⟩⟩;rw[hb.block g (Nat.lt_of_lt_of_le (Array.getElem?_eq_some_iff.1 hh).1 hB)];exact hh
theorem OwnBss.nil (w:World) (base:Nat):OwnBss w base (.slice none 0 0) []:=⟨[],World.ownsRow_nil _ _ _ _,rfl,fun i c h=>by simp at h⟩
theorem OwnBss.below {w w':World} {base:Nat} {v:Value} {l:List (List UInt8)} {B:Nat} (h:OwnBss w base v l) (hB:w.heap.size≤B) (hb:Below B w w'):OwnBss w' base v l:=by
 obtain⟨vs,h1,h2,h3⟩:=h;exact⟨vs,own_below h1 hB hb,h2,fun i c hc=>by obtain⟨u,e1,e2⟩:=h3 i c hc;exact⟨u,e1,own_below e2 hB hb⟩⟩
theorem OwnBss.snoc {w w':World} {base:Nat} {v v' u:Value} {n:Nat} {l:List (List UInt8)} {c:List UInt8} {vs:List Value} (h1:w.ownsRow base 42 1 v n vs) (hn:n=l.length)
 (h2:vs.length=l.length) (h3:∀(i:Nat) (c:List UInt8),l[i]? = some c→∃u,vs[i]? = some u∧w.ownsRow base 5 1 u c.length ((toI c).map (Value.int .u8)))
 (hu:w.ownsRow base 5 1 u c.length ((toI c).map (Value.int .u8))) (hg:w.grownBy w' v.ownBlock) (h1':w'.ownsRow base 42 1 v' (n+1) (vs++[u])):OwnBss w' base v' (l++[c]):=by
 refine⟨vs++[u],by rw[List.length_append,←hn];exact h1',by simp[h2],fun i d hd=>?_⟩
 by_cases hi:i<l.length
 ·rw[List.getElem?_append_left hi] at hd
  obtain⟨x,e1,e2⟩:=h3 i d hd;exact⟨x,by rw[List.getElem?_append_left (by omega)];exact e1,e2.kept hg (own_types e2 h1 (by decide))⟩
 ·have hlen:=(List.getElem?_eq_some_iff.1 hd).1
  simp at hlen;obtain rfl:i=l.length:=by omega
  rw[List.getElem?_append_right (Nat.le_refl _),Nat.sub_self] at hd;cases hd;exact⟨u,by rw[List.getElem?_append_right (by omega),h2,Nat.sub_self];rfl,hu.kept hg (own_types hu h1 (by decide))⟩
theorem OwnBss.bss {w:World} {base:Nat} {v:Value} {l:List (List UInt8)} (h:OwnBss w base v l):∃a cap,v=.slice a l.length cap∧Bss w a l.length cap l:=by
 obtain⟨vs,⟨h1,h2⟩,h3,h4⟩:=h;simp only[Nat.mul_one] at h1
 rcases h2 with⟨rfl,h0⟩|⟨g,cap,cur,rfl,hb,hg,hn,hm,hc,ht⟩
 ·rw[h0]
  exact⟨none,0,rfl,h0,Nat.le_refl _,by unfold maxLen;omega,fun _=>rfl,.inl rfl⟩
 ·refine⟨_,cap,rfl,rfl,hn,hm,(fun h=>by cases h),.inr ⟨g,0,rfl,(Array.getElem?_eq_some_iff.1 hg).1,fun i y hy=>?_⟩⟩
  obtain⟨u,e1,e2⟩:=h4 i y hy;obtain⟨a,cp,rfl,hbs⟩:=Bs.of_own e2;refine⟨[.slice a y.length cp],rfl,⟨a,_,cp,rfl,hbs⟩,fun j x hx=>?_⟩;have hi:=(List.getElem?_eq_some_iff.1 hy).1
  match j,hx with
  | 0,hx=>
   cases hx;simp only[World.cell?,hg,Nat.zero_add,Nat.mul_one,Nat.add_zero];have e:(cur.toList.take (l.length*1))[i]? = cur.toList[i]? := List.getElem?_take_of_lt (by omega);rw[ht] at e;rw[←Array.getElem?_toList,←e];exact e1
  | j+1,hx=>simp at hx
theorem Bs.sub {w:World} {a:Option Addr} {len cap:Nat} {L:List UInt8} (h:Bs w a len cap L) (l r m:Nat) (h1:l≤r) (h2:r≤len) (h3:r≤m) (h4:m≤cap) :
 Bs w (if m=l then a else a.map (·.add (l*1))) (r-l) (m-l) ((L.drop l).take (r-l)):=by
 have hl:=h.len;have hc:=h.cap;refine⟨by simp[toI_length];omega,by omega,by omega,(fun hn=>?_),?_⟩
 ·by_cases e:m=l
  ·omega
  ·rw[if_neg e] at hn
   have:a=none:=by simpa using hn
   have:=h.2.2.2.1 this;omega
 ·by_cases e:r=l
  ·exact .inl (by omega)
  ·obtain⟨b,off,rfl,hb,hcell⟩:=h.cell (k:=l) (by omega)
   refine .inr ⟨b,off+l,by rw[if_neg (by omega)];simp[add_none],hb,fun i hi=>?_⟩;rw[toI_get,Nat.add_assoc,hcell (l+i) (by omega)];simp[hi]
theorem sub_run {P:Program} {T:TypeId} (hT:P.underlying T=some (.slice (P.elem T))) (hz:∀w,(sizeOf (P.elem T)).run P w=.ok 1 w) (a:Option Addr) (len cap l r m:Nat) (h1:l≤r) (h3:r≤m) (h4:m≤cap) :
 ∃a2,a2=(if m=l then a else a.map (·.add (l*1)))∧∀(k k2 k3:IntKind) w,(Instr.slice T (.slice a len cap) (some (.int k l)) (some (.int k2 r)) (some (.int k3 m))).run P w=.ok (.slice a2 (r-l) (m-l)) w:=by
 refine⟨_,rfl,fun k k2 k3 w=>?_⟩;rw[run_slice_lhm w T a len cap hT k k2 k3 l r m (by omega) (by omega) (by omega) (by omega),hz]
 rfl
theorem beVal_beBytes (x n:Nat):beVal (beBytes x n)=x % 256 ^ n:=by
 induction n generalizing x with
 | zero=>simp[beBytes,beVal_nil,Nat.mod_one]
 | succ n ih=>
  have e:256 ^ (n+1)=256*256 ^ n:=by rw[Nat.pow_succ,Nat.mul_comm]
  have e2:x % 2 ^ 8=x % 256:=rfl;rw[beBytes,beVal_snoc,ih,UInt8.toNat_ofNat',e,Nat.mod_mul,e2];omega
theorem tNum_be (x n:Nat) (h1:1≤n) (h8:n≤8) (hx:x<256 ^ n) (r:List UInt8):tNum ⟨beBytes x n++r,0⟩ (n:Int)=(x,⟨r,0⟩):=by
 have hl:=beBytes_length x n;rw[tNum,if_neg (by simp;omega)];have:takeF ⟨beBytes x n++r,0⟩ n=(beBytes x n,⟨r,0⟩):=by
  simp only[takeF];rw[if_neg (by simp),if_neg (by simp[hl])];simp[hl]
 rw[Int.toNat_natCast,this,beVal_beBytes,Nat.mod_eq_of_lt hx]
section
variable (X N:Nat→Nat)
end
theorem slotsOf_get (l:List (List UInt8)) (i e:Nat) (h:i<l.length):(slotsOf e l)[i]? = some (UInt8.ofNat (e-lens (l.take (i+1)))):=by
 induction l generalizing i e with
 | nil=>simp at h
 | cons c r ih=>
  match i with
  | 0=>simp[slotsOf,lens]
  | i+1=>
   have:=ih i (e-c.length) (by simpa using h);simp only[slotsOf,List.getElem?_cons_succ,this,List.take_succ_cons]
   congr 2
   simp[lens,Nat.sub_sub]
theorem pageOf_five' (kind:UInt8) (c:List (List UInt8)):(pageOf kind c)[5]? = some (UInt8.ofNat c.length):=by
 rw[pageOf,List.getElem?_append_right (by rw[beBytes_length];omega),beBytes_length];rfl
theorem page_kind (kind:UInt8) (l:List (List UInt8)) (_hfit:l.length+lens l≤122):kindS (pageOf kind l)=kind:=by
 rw[kindS,pageOf,List.getElem?_append_right (by rw[beBytes_length];omega),beBytes_length];rfl
theorem page_num (kind:UInt8) (l:List (List UInt8)) (hfit:l.length+lens l≤122):numS (pageOf kind l)=l.length:=by
 rw[numS,pageOf_five' kind l];simp;omega
theorem page_slot (kind:UInt8) (l:List (List UInt8)) (_hfit:l.length+lens l≤122) (i:Nat) (h:i<l.length):slotS (pageOf kind l) i=128-lens (l.take (i+1)):=by
 have hl:=lens_take_le l (i+1);have e:(pageOf kind l)[6+i]? = some (UInt8.ofNat (128-lens (l.take (i+1)))):=by
  rw[pageOf,List.getElem?_append_right (by rw[beBytes_length];omega),beBytes_length,show 6+i-4=i+2 by omega,bodyOf];simp only[List.getElem?_cons_succ];rw[List.getElem?_append_left (by rw[slotsOf_length];exact h),slotsOf_get l i 128 h]
 rw[slotS,e];simp;omega
theorem page_end (kind:UInt8) (l:List (List UInt8)) (hfit:l.length+lens l≤122) (i:Nat) (h:i≤l.length):endS (pageOf kind l) i=128-lens (l.take i):=by
 match i with
 | 0=>simp[endS,lens]
 | i+1=>exact page_slot kind l hfit i h
theorem page_ok (kind:UInt8) (l:List (List UInt8)) (hfit:l.length+lens l≤122):okSC (pageOf kind l) l.length=true:=by
 rw[okSC,List.all_eq_true];intro i hi;rw[List.mem_range] at hi;rw[decide_eq_true_eq,page_slot kind l hfit i hi,page_end kind l hfit i (by omega),lens_take_succ l i hi];omega
theorem page_cell (kind:UInt8) (l:List (List UInt8)) (hfit:l.length+lens l≤122) (i:Nat) (h:i<l.length):cellS (pageOf kind l) i=l[i]:=by
 have h1:=page_slot kind l hfit i h;have h2:=page_end kind l hfit i (by omega);have hle:=lens_take_le l (i+1);have hs:=lens_take_succ l i h;have hg:l[i]?.getD []=l[i]:=by rw[List.getElem?_eq_getElem h];rfl
 rw[hg] at hs;have hsplit:backOf l=backOf (l.drop (i+1))++(l[i]++backOf (l.take i)):=by
  have e:l=l.take i++([l[i]]++l.drop (i+1)):=by simp
  conv=>lhs;rw[e]
  rw[backOf_append,backOf_append,backOf_one,List.append_assoc]
 have hlen:lens l=lens (l.take (i+1))+lens (l.drop (i+1)):=by rw[←lens_append,List.take_append_drop]
 have hp:pageOf kind l=(beBytes (crcOf (bodyOf kind l.length l)) 4++(kind::UInt8.ofNat l.length::(slotsOf 128 l++(List.replicate (122-l.length-lens l) 0++backOf (l.drop (i+1))))))++(l[i]++backOf (l.take i)):=by
  rw[pageOf]
  conv=>lhs;arg 2;rw[bodyOf,hsplit]
  simp[List.append_assoc]
 rw[cellS,h1,h2,hp];have hlen2:(beBytes (crcOf (bodyOf kind l.length l)) 4++(kind::UInt8.ofNat l.length::(slotsOf 128 l++(List.replicate (122-l.length-lens l) 0++backOf (l.drop (i+1)))))).length=128-lens (l.take (i+1)):=by
  simp only[List.length_append,List.length_cons,beBytes_length,slotsOf_length,List.length_replicate,backOf_length];omega
 rw[←hlen2,List.drop_left,hlen2];have:128-lens (l.take i)-(128-lens (l.take (i+1)))=l[i].length:=by omega
 rw[this,List.take_left]
theorem page_cut (kind:UInt8) (l:List (List UInt8)) (hfit:l.length+lens l≤122):cutS (pageOf kind l) l.length=l:=by
 apply List.ext_getElem
 ·simp[cutS]
 ·intro i h1 h2
  simp only[cutS,List.getElem_map,List.getElem_range];exact page_cell kind l hfit i h2
theorem page_back (kind:UInt8) (l:List (List UInt8)) (h:fits kind l=true):unpE (pageOf kind l)=0∧unpK (pageOf kind l)=kind∧unpL (pageOf kind l)=l:=by
 have hfit:l.length+lens l≤122:=by
  simp only[fits,Bool.and_eq_true,decide_eq_true_eq] at h;exact h.2
 have hlen:=pageOf_length kind l hfit;have hn:=page_num kind l hfit;have hk:=page_kind kind l hfit;have hmin:min l.length 122=l.length:=Nat.min_eq_left (by omega);have hc:=page_cut kind l hfit;have hB:unpB (pageOf kind l)=true:=by
  rw[unpB,hn,hk,hmin,hc,page_ok kind l hfit,h];simp
 have hsum:beVal ((pageOf kind l).take 4)=crcOf ((pageOf kind l).drop 4):=by
  have e1:(pageOf kind l).take 4=beBytes (crcOf (bodyOf kind l.length l)) 4:=by
   rw[pageOf,List.take_append_of_le_length (by rw[beBytes_length];omega),List.take_of_length_le (by rw[beBytes_length];omega)]
  have e2:(pageOf kind l).drop 4=bodyOf kind l.length l:=by
   rw[pageOf];have:=List.drop_left (l₁:=beBytes (crcOf (bodyOf kind l.length l)) 4) (l₂:=bodyOf kind l.length l)
   rwa [beBytes_length] at this
  have hx:=crcOn_lt 0 (bodyOf kind l.length l);rw[e1,e2,beVal_beBytes,Nat.mod_eq_of_lt (by exact hx)]
 have hE:unpE (pageOf kind l)=0:=by
  rw[unpE,if_neg (by omega),if_neg (by simpa using hsum),if_pos hB]
 refine⟨hE,?_,?_⟩
 ·rw[unpK,hE,hk];rfl
 ·rw[unpL,hE,hn,hmin,hc];rfl
open Go.RowKit
def UnpPost (w:World) (k:UInt8) (l:List (List UInt8)) (er:Int) (e:Ending) (w':World):Prop:=
 ∃v,e=.returned (.tuple #[.int .u8 (k.toNat:Int),v,.int .i64 er])∧OwnBss w' w.heap.size v l∧Below w.heap.size w w'
theorem unpack_len (a:Option Addr) (len cap:Nat) (l:List UInt8) (w:World) (h:Bs w a len cap l) (hl:len≠128) :
 Calls Tryz.prog 138 #[.slice a len cap] w fun e w'=>e=.returned (.tuple #[.int .u8 0,.slice none 0 0,.int .i64 1])∧w=w':=by
 have hne:((len:Int) != 128)=true:=by simp;omega
 have hne2:((len:Int) == 128)=false:=by simp;omega
 have hc:=h.cap;unfold maxLen at hc;go_enter Tryz.func138,Tryz.ntmps138
 go_wp2
 go_ret3
 exact⟨rfl,rfl⟩
theorem tNum_four (l:List UInt8) (h:4≤l.length):tNum ⟨l,0⟩ 4=(beVal (l.take 4),⟨l.drop 4,0⟩):=by
 simp[tNum,takeF,show ¬l.length<4 by omega]
theorem unpack_sum (a:Option Addr) (cap:Nat) (l:List UInt8) (w:World) (h:Bs w a 128 cap l) (hh:Half w) (hs:beVal (l.take 4)≠crcOf (l.drop 4)) :
 Calls Tryz.prog 138 #[.slice a 128 cap] w (UnpPost w 0 [] 12):=by
 have hll:=Hd h.len;have hc:=h.cap;unfold maxLen at hc;obtain⟨a2,ha2,hsl⟩:=slice_from elem_bytes size_bytes a 128 cap 4 (by omega);have hsl4:∀w,(Instr.slice 42 (.slice a 128 cap) (some (.int .i64 4)) none none).run Tryz.prog w=.ok (.slice a2 124 (cap-4)) w:=hsl .i64;have hd:=h.drop 4 (by omega);rw[←ha2] at hd;have hT:=take_any a 128 cap l w.drew h (by omega);have hO:∀W,Below w.heap.size w W→Calls Tryz.prog 69 #[.slice a2 124 (cap-4)] W fun e w'=>e=.returned (.int .u32 (crcOf (l.drop 4)))∧W=w':=fun W hW=>crcOf_any _ _ _ _ W (hd.below (Nat.le_refl _) hW) (hh.below (Nat.le_refl _) hW)
 have hN:∀t W,Tk W t ⟨l,0⟩→Calls Tryz.prog 57 #[.pointer (some ⟨t,0,none⟩),.int .i64 4] W (TkPost W t (fun _ v=>v=.int .u64 (beVal (l.take 4):Int)) ⟨l.drop 4,0⟩):=fun t W hW=>by
  have:=tNum_any t ⟨l,0⟩ 4 W hW (by rw[hll.out];omega);rw[tNum_four l (by rw[hll.out];omega)] at this;exact this
 have hx:=crcOn_lt 0 (l.drop 4);change crcOf _<_ at hx;generalize crcOf (l.drop 4)=s at *;generalize beVal (l.take 4)=x at *;have hne:((x:Int) != (s:Int))=true:=by simp;omega
 have hw64:(s:Int) % 18446744073709551616=(s:Int):=by omega
 have hw64':IntKind.u64.wrap (s:Int)=(s:Int):=by simp[IntKind.wrap,IntKind.signed,IntKind.bits];omega
 have hB0:Below w.heap.size w w.drew:=(Below.refl _ _).drew;clear ha2 hsl hs hh;go_enter Tryz.func138,Tryz.ntmps138;go_wp2_with fail
 go_region_with (first|(go_at_call 56;refine hT.mono ?_;rintro e w1 ⟨rfl,htk,hlt,hb1⟩;have hB1:=below_then hB0 hb1)|(go_at_call 57;refine(hN _ _ htk).mono ?_;rintro e w2 ⟨_,rfl,rfl,hg2,htk2⟩;have hB2:=below_take hB1 hlt hg2)|(go_at_call 69;refine(hO _ (by assumption)).mono ?_;rintro e wx ⟨rfl,rfl⟩))
 all_goals
  go_wp2
  go_ret3
  exact⟨_,rfl,OwnBss.nil _ _,hB2⟩
def UnpOk (w:World) (l:List UInt8) (m:Nat) (e:Ending) (w':World):Prop:=
 if okSC l m && (fits (kindS l) (cutS l m) && pageOf (kindS l) (cutS l m) == l) then UnpPost w (kindS l) (cutS l m) 0 e w' else UnpPost w 0 [] 11 e w'
theorem sub_run6 (b off cap n:Nat) (hn:n≤122) (hc:128≤cap) (W:World):(Instr.slice 42 (.slice (some ⟨b,off,none⟩) 128 cap) (some (.int .i64 6)) (some (.int .i64 (6+(n:Int)))) (some (.int .i64 128))).run Tryz.prog W=.ok (.slice (some ⟨b,off+6,none⟩) n 122) W:=by
 obtain⟨sa,hsa,hsr⟩:=sub_run elem_bytes size_bytes (some ⟨b,off,none⟩) 128 cap 6 (6+n) 128 (by omega) (by omega) (by omega);have:=hsr .i64 .i64 .i64 W;rw[show 6+n-6=n by omega,hsa] at this;simpa[add_none] using this
theorem info_bytes:(Tryz.prog.info? 42).map (fun i=>(i.zero,i.size,i.bytes))=some (some (.slice none 0 0),1,24):=by kernel_rfl
theorem unpack_ok (a:Option Addr) (cap:Nat) (l:List UInt8) (w:World) (h:Bs w a 128 cap l) (hh:Half w) (hs:beVal (l.take 4)=crcOf (l.drop 4)) (m:Nat) (hm:(numS l≤122∧m=numS l)∨(122<numS l∧m=122)) :
 Calls Tryz.prog 138 #[.slice a 128 cap] w (UnpOk w l m):=by
 have hll:=Hd h.len;have hc:=h.cap;unfold maxLen at hc;obtain⟨a2,ha2,hsl⟩:=slice_from elem_bytes size_bytes a 128 cap 4 (by omega);have hsl4:∀w,(Instr.slice 42 (.slice a 128 cap) (some (.int .i64 4)) none none).run Tryz.prog w=.ok (.slice a2 124 (cap-4)) w:=hsl .i64;have hd:=h.drop 4 (by omega);rw[←ha2] at hd;have hT:=take_any a 128 cap l w.drew h (by omega);have hO:∀W,Below w.heap.size w W→Calls Tryz.prog 69 #[.slice a2 124 (cap-4)] W fun e w'=>e=.returned (.int .u32 (crcOf (l.drop 4)))∧W=w':=fun W hW=>crcOf_any _ _ _ _ W (hd.below (Nat.le_refl _) hW) (hh.below (Nat.le_refl _) hW)
 have hN:∀t W,Tk W t ⟨l,0⟩→Calls Tryz.prog 57 #[.pointer (some ⟨t,0,none⟩),.int .i64 4] W (TkPost W t (fun _ v=>v=.int .u64 (beVal (l.take 4):Int)) ⟨l.drop 4,0⟩):=fun t W hW=>by
  have:=tNum_any t ⟨l,0⟩ 4 W hW (by rw[hll.out];omega);rw[tNum_four l (by rw[hll.out];omega)] at this;exact this
 have hx:=crcOn_lt 0 (l.drop 4);change crcOf _<_ at hx;rw[hs] at hN;generalize crcOf (l.drop 4)=s at *;have hw64:(s:Int) % 18446744073709551616=(s:Int):=by omega
 have hw64':IntKind.u64.wrap (s:Int)=(s:Int):=by simp[IntKind.wrap,IntKind.signed,IntKind.bits];omega
 have hB0:Below w.heap.size w w.drew:=(Below.refl _ _).drew;obtain⟨b,off,rfl,hbb,hcell⟩:=h.cell (k:=0) (by omega);have H:=Hd h;have HH:=Hd hh;clear ha2 hsl hs hh hd h;go_enter Tryz.func138,Tryz.ntmps138;go_wp2_with fail
 go_region_with (first|(go_at_call 56;refine hT.mono ?_;rintro e w1 ⟨rfl,htk,hlt,hb1⟩;have hB1:=below_then hB0 hb1)|(go_at_call 57;refine(hN _ _ htk).mono ?_;rintro e w2 ⟨_,rfl,rfl,hg2,htk2⟩;have hB2:=below_take hB1 hlt hg2)|(go_at_call 69;refine(hO _ (by assumption)).mono ?_;rintro e wx ⟨rfl,rfl⟩))
 all_goals
  clear hT hO hN hsl4 htk htk2 hg2 hb1 hB1;have hc4:w2.cell? ⟨b,off+4,none⟩=some (.int .u8 ((kindS l).toNat:Int)):=(hB2.cell (p:=⟨b,off+4,none⟩) hbb).trans (hcell 4 (by omega));have hc5:w2.cell? ⟨b,off+5,none⟩=some (.int .u8 ((numS l:Nat):Int)):=(hB2.cell (p:=⟨b,off+5,none⟩) hbb).trans (hcell 5 (by omega));have hn256:numS l<256:=(l[5]?.getD 0).toNat_lt;obtain⟨i0,hi,hz0,hz1,hz2⟩:=info_parts info_bytes;have hn0:IntKind.i64.wrap ((numS l:Nat):Int)=((numS l:Nat):Int):=IntWalk.i64_in _ (by omega);go_wp2_with fail
  go_quiet (fail)
  clear hc4 hc5 hn0;have hB2:=below_drewN hB2 nq;generalize w2.drewN nq=w3 at *
  rcases hm with⟨hm1,hm2⟩|⟨hm1,hm2⟩
  all_goals
   have HM:=Hd hm2;clear hm2
   try (have hs6:∀W,(Instr.slice 42 (.slice (some ⟨b,off,none⟩) 128 cap) (some (.int .i64 6)) (some (.int .i64 (6+((numS l:Nat):Int)))) (some (.int .i64 128))).run Tryz.prog W=.ok (.slice (some ⟨b,off+6,none⟩) (numS l) 122) W:=sub_run6 b off cap (numS l) hm1 hc.1)
   go_wp2_with fail
   try clear hs6
   go_loopw [8,9,42] (fun v e i wr=>∃k:Nat,k≤m∧i=.int .i64 k∧e=.int .i64 ((endS l k:Nat):Int)∧okSC l k=true∧OwnBss wr w.heap.size v (cutS l k)∧Below w.heap.size w wr) (fun _ _ i _=>m-(intOf i).toNat)
   case atStart=>exact⟨0,Nat.zero_le _,rfl,rfl,rfl,OwnBss.nil _ _,hB2⟩
   case round=>
    obtain⟨k,hk,rfl,rfl,hok,hown,hb⟩:=hrel
    by_cases hlt:k<m
    ·have hck:wr.cell? ⟨b,off+6+k,none⟩=some (.int .u8 ((slotS l k:Nat):Int)):=by
      have hmm:=HM.out;rw[hb.cell (p:=⟨b,off+6+k,none⟩) hbb,Nat.add_assoc,hcell (6+k) (by omega)];rfl
     have hklt:k<122∧k<numS l:=by have:=HM.out;omega
     have hend:=okS_end l k hok;have hsl:=slotS_lt l k;have hes:endS l (k+1)=slotS l k:=rfl;have hok1:=okS_succ l k;rw[hok,Bool.true_and] at hok1
     by_cases hle:slotS l k≤endS l k
     ·obtain⟨sa,hsa,hsr⟩:=sub_run elem_bytes size_bytes (some ⟨b,off,none⟩) 128 cap (slotS l k) (endS l k) (endS l k) hle (Nat.le_refl _) (by omega)
      have hrow:=(H.out.below (Nat.le_refl _) hb).sub (slotS l k) (endS l k) (endS l k) hle (by omega) (Nat.le_refl _) (by omega);rw[←hsa] at hrow;have hrow:Bs wr sa (endS l k-slotS l k) (endS l k-slotS l k) (cellS l k):=hrow;have hcut:=Hd (cutS_succ l k);have HES:=Hd hes;have HOK:Hid (okSC l (k+1)=true):=Hd (by rw[hok1];simpa using hle);clear hsa hes hok1 hok;generalize slotS l k=q at *;generalize endS l k=e at *;generalize cellS l k=c at *;have hle2:¬(e:Int)<(q:Int):=by omega
      go_wp2_with fail;refine(bclone_any sa (e-q) (e-q) c wr hrow (by omega)).mono ?_;rintro e1 w4 ⟨u,rfl,hu,hb4⟩;obtain⟨a9,c9,rfl,_⟩:=own_slice hu;obtain⟨vs,ho1,ho2,ho3⟩:=(hown.below (Nat.le_refl _) hb4).below (Nat.le_refl _) ((Below.refl _ _).alloc (Nat.le_refl _) (.cells #[.slice a9 c.length c9] 42));rw[cutS_length] at ho1;have hcl:(w4.alloc (.cells #[.slice a9 c.length c9] 42)).cell? ⟨w4.heap.size,0,none⟩=some (.slice a9 c.length c9):=by
       simp only[World.cell?,World.alloc_heap_new];rfl
      have HU:=Hd ((own_baseC hu hb.size).alloc (.cells #[.slice a9 c.length c9] 42));have HB4:=Hd ((below_then hb hb4).alloc (below_then hb hb4).size (.cells #[.slice a9 c.length c9] 42));have HSZ:=Hd (show w.heap.size≤w4.heap.size from Nat.le_trans hb.size hb4.size);have HL:=Hd (cutS_length l k);have HO2:=Hd ho2;have HO3:=Hd ho3;clear ho2 ho3 hu hown hb4 hrow
      go_wp2_with (at_builtin;refine wpList_append_one rfl _ _ 265 rfl w.heap.size 42 i0 _ 24 Tryz.underlying265 hi hz0 hz1 hz2 rfl _ k vs rfl ho1 w4.heap.size rfl (.slice a9 c.length c9) hcl rfl (by unfold maxLen;omega) (by omega) (by have:=HSZ.out;simp;omega) ?_)
      intro v2 w5 hown2 hg;have HSN:=Hd (OwnBss.snoc ho1 HL.out.symm HO2.out HO3.out HU.out hg hown2);have HB:=Hd (HB4.out.grown hg (by have:=HSZ.out;simp;omega) (own_ge ho1));clear hg hown2 ho1
      go_wp2
      go_roundw
      case rel=>exact⟨k+1,by omega,by go_num,by rw[HES.out],HOK.out,by rw[hcut.out];exact HSN.out,HB.out⟩
      case measure=>simp[intOf];omega
     ·have hres:(okSC l m && (fits (kindS l) (cutS l m) && pageOf (kindS l) (cutS l m) == l))=false:=by
       rw[okS_mono l (m:=k+1) (by rw[hok1];simpa using hle) hlt,Bool.false_and]
      have HR:=Hd hres;clear hres hok1 hes hok hown hend;generalize slotS l k=q at *;generalize endS l k=e at *;have hle2:(e:Int)<(q:Int):=by omega
      go_wp2_with fail
      go_ret3
      rw[UnpOk,HR.out];exact⟨_,rfl,OwnBss.nil _ _,hb⟩
    ·obtain rfl:k=m:=by omega
     obtain⟨ao,co,rfl,hbss⟩:=hown.bss;have hcl:=cutS_lens l k hll.out hok;have hcn:=cutS_length l k;rw[hcn] at hbss;have hpk:=pack_any (kindS l) ao k co (cutS l k) wr hbss (HH.out.below (Nat.le_refl _) hb) (by have:=HM.out;omega);rw[hcn] at hown;have hout:=Hd hown;rw[hcn];have hbase:=hb.size;have hrow:=H.out.below (Nat.le_refl _) hb;have HOKK:=Hd hok
     try (have hge:numS l≤k:=by have:=HM.out;omega)
     try (have hge2:122≤k:=by have:=HM.out;omega)
     clear hcl hcn hok hown hbss
     by_cases hf:fits (kindS l) (cutS l k)=true
     ·have hpv:packV (kindS l) (cutS l k)=pageOf (kindS l) (cutS l k):=by rw[packV,if_pos hf]
      have hpe:packE (kindS l) (cutS l k)=0:=by rw[packE,if_pos hf]
      rw[hpv,hpe] at hpk;have HF:=Hd hf;clear hpv hpe hf;go_wp2_with fail;refine hpk.mono ?_;rintro e w5 ⟨v5,rfl,hown5,hb5⟩;obtain⟨a5,c5,rfl,hbs5⟩:=Bs.of_own hown5;have hB5:=below_then hb hb5;have HOUT5:=Hd (hout.out.below (Nat.le_refl _) hb5);go_wp2_with fail;refine(equal_any a5 _ c5 (pageOf (kindS l) (cutS l k)) (some ⟨b,off,none⟩) 128 cap l w5 hbs5 (hrow.below (Nat.le_refl _) hb5)).mono ?_;rintro e w6 ⟨rfl,rfl⟩;have HR:=Hd (show(okSC l k && (fits (kindS l) (cutS l k) && pageOf (kindS l) (cutS l k) == l))=(pageOf (kindS l) (cutS l k) == l) by rw[HOKK.out,HF.out,Bool.true_and,Bool.true_and]);cases hq:(pageOf (kindS l) (cutS l k) == l)
      ·have HQ:=Hd hq
       clear hq hpk hrow hb hown5 hbs5 hb5;go_wp2_with fail
       go_ret3
       rw[UnpOk,HR.out,HQ.out];exact⟨_,rfl,OwnBss.nil _ _,hB5⟩
      ·have HQ:=Hd hq
       clear hq hpk hrow hb hown5 hbs5 hb5;go_wp2_with fail
       go_ret3
       rw[UnpOk,HR.out,HQ.out];exact⟨_,rfl,HOUT5.out,hB5⟩
     ·have hpe:packE (kindS l) (cutS l k)=1:=by rw[packE,if_neg hf]
      have hpv:packV (kindS l) (cutS l k)=[]:=by rw[packV,if_neg hf]
      have HR:=Hd (show(okSC l k && (fits (kindS l) (cutS l k) && pageOf (kindS l) (cutS l k) == l))=false by rw[Bool.eq_false_iff.2 hf,Bool.false_and,Bool.and_false]);rw[hpv,hpe] at hpk;clear hpv hpe hf;go_wp2_with fail;refine hpk.mono ?_;rintro e w5 ⟨v5,rfl,hown5,hb5⟩;have hB5:=below_then hb hb5;clear hpk hrow hb hown5 hb5;go_wp2_with fail
      go_ret3
      rw[UnpOk,HR.out];exact⟨_,rfl,OwnBss.nil _ _,hB5⟩
end Go.Proofs.YtpghlmcoajaiiaaGreatDoor
