/- Texts that other texts of this claim lean on, one behind the other. -/
import Derived.Test.YtpghlmcoajaiiaaGreatDoorM2
import Derived.Test.YtpghlmcoajaiiaaGreatDoorM3
import Derived.Test.YtpghlmcoajaiiaaGreatDoorM4
import Derived.Test.YtpghlmcoajaiiaaGreatDoorM1
import Derived.Test.YtpghlmcoajaiiaaGreatDoorM8
import Derived.Test.YtpghlmcoajaiiaaGreatDoorM10
import Derived.Deep.RegionHeld3
import Derived.Deep.DeepCutAuto
import Derived.Deep.CutBlock
import Derived.Test.YtpghlmcoajaiiaaGreatDoorM9
import Derived.RegionTactic
import Derived.Test.YtpghlmcoajaiiaaGreatDoorM5
import Derived.Test.YtpghlmcoajaiiaaGreatDoorM6
import Derived.Test.YtpghlmcoajaiiaaGreatDoorM7
set_option maxHeartbeats 20000000
set_option maxRecDepth 100000
namespace Go.Proofs.YtpghlmcoajaiiaaGreatDoor
open Go.RowKit
theorem refAt_any (a:Option Addr) (len cap:Nat) (l:List Int) (w:World) (hr:Row .i64 w a len cap l) (hs:Small l) :
 Calls Tryz.prog 125 #[.slice a len cap] w fun e w'=>e=.returned (.int .i64 (atF l))∧w=w':=by
 have hbd:=hs.bd;have hll:=Hd hr.1;have hl1:=hs.1;have hlc:=hr.2.1;have hm:=hr.2.2.1;unfold maxLen at hm;have hlen:l.length≤len∧len≤l.length:=by rw[hr.1];omega
 by_cases hle:sumI l≤122
 ·have hat:Hid (atF l=0):=Hd (by simp[atF,hle])
  exact q3c7e12
 ·by_cases hl2:len<2
  ·have hat:Hid (atF l=0):=Hd (by
    have e:l.length-1=0:=by omega
    simp[atF,hle,e,bestTo_zero])
   exact q3c7e12
  ·have hat:Hid (atF l=(bestTo l (len-1)).2):=Hd (by rw[←hr.1];simp[atF,hle])
   go_enter Tryz.func125,Tryz.ntmps125
   go_wp2_with (go_at_call 150;refine(refSum_any _ _ _ _ _ hr hs).mono ?_;rintro e w' ⟨rfl,rfl⟩)
   go_loop [3,4] (fun at' kk=>∃k m:Nat,2≤k∧k≤len∧kk=.int .i64 k∧at'=.int .i64 m∧1≤m∧m<k∧bestTo l (k-1)=(worse l m,(m:Int))) (fun _ k=>len-(intOf k).toNat)
   case atStart=>
    obtain⟨m,h1,h2,e⟩:=bestTo_pos hs 0;obtain rfl:m=1:=by omega
    exact⟨2,1,by omega,by omega,rfl,rfl,h1,by omega,e⟩
   case round=>
    obtain⟨k,m,hk2,hk,rfl,rfl,hm1,hm2,hb⟩:=hrel;have hst:bestTo l (k+1-1)=better (worse l m,(m:Int)) ((k:Int),worse l k):=by
     obtain⟨n,rfl⟩:∃n,k=n+1:=⟨k-1,by omega⟩
     have:=bestTo_succ l n;simp only[Nat.add_sub_cancel] at hb ⊢;rw[this,hb];simp
    have HB:=Hd hb;have HS:=Hd hst;clear hb hst
    by_cases hlt:k<len
    ·by_cases hw:worse l k<worse l m
     ·go_wp2_with fail
      refine(worse_any _ _ _ k _ _ hr hs (by omega)).mono ?_;rintro e w' ⟨rfl,rfl⟩;go_wp2_with fail;refine(worse_any _ _ _ m _ _ hr hs (by omega)).mono ?_;rintro e w' ⟨rfl,rfl⟩
      go_wp2
      go_round
      case rel=>exact⟨k+1,k,by omega,by omega,by go_num,rfl,by omega,by omega,by rw[HS.out,better,if_pos hw]⟩
      case measure=>simp[intOf];omega
     ·go_wp2_with fail
      refine(worse_any _ _ _ k _ _ hr hs (by omega)).mono ?_;rintro e w' ⟨rfl,rfl⟩;go_wp2_with fail;refine(worse_any _ _ _ m _ _ hr hs (by omega)).mono ?_;rintro e w' ⟨rfl,rfl⟩
      go_wp2
      go_round
      case rel=>exact⟨k+1,m,by omega,by omega,by go_num,rfl,by omega,by omega,by rw[HS.out,better,if_neg (by simpa using hw)]⟩
      case measure=>simp[intOf];omega
    ·obtain rfl:k=len:=by omega
     go_wp2
     go_ret;exact⟨ret_int (by rw[hat.out,HB.out]),rfl⟩
def PartedTo (F:Nat→Prop) (n:Nat) (w:World) (p:Int) (l:List (List UInt8×Tr)) (k:Nat) (e:Ending) (w':World):Prop:=
 ∃cs,e=.returned (.tuple #[.agg cs.toArray,.bool (splitT l k).isSome])∧RNodeOn (Fr F w) n w' cs (match splitT l k with|none=>.node p l|some m=>.node 0 m)∧Below w.heap.size w w'
theorem parted_end {F:Nat→Prop} {n m d:Nat} {w w4 w':World} {p:Int} {l mm:List (List UInt8×Tr)} {k r:Nat} {a:Option Addr} (hsp:splitT l k=some mm) (hr:w.heap.size≤r) (hF:∀b,F b→b<w.heap.size) (hr4:r<w4.heap.size)
 (h:RNodeOn (Fr F w4) (n+1) w' [.int .i64 0,.bool (Tr.node 0 mm).isLeaf,.slice a m d] (.node 0 mm)) (hb:Below w.heap.size w w') :
 PartedTo F (n+1) w p l k (.returned (.tuple #[.agg #[.int .i64 0,.bool false,.slice a m d],.bool true])) (((w'.setCell ⟨r,0,none⟩ (.int .i64 0)).setCell ⟨r,1,none⟩ (.bool false)).setCell ⟨r,2,none⟩ (.slice a m d)):=by
 refine⟨[.int .i64 0,.bool false,.slice a m d],by rw[hsp];rfl,?_,((hb.setCell (by simpa using hr) _).setCell (by simpa using hr) _).setCell (by simpa using hr) _⟩;rw[hsp];refine(h.put3 (r:=r) (fun hg=>?_) _ _ _).mono (fun b hb=>?_)
 ·rcases hg with hg|hg
  ·have:=hF _ hg;omega
  ·omega
 ·rcases hb with hb|hb
  ·exact .inl hb
  ·exact .inr (by omega)
theorem parted_any {F:Nat→Prop} {n:Nat} {w:World} {cs:List Value} {p:Int} {l:List (List UInt8×Tr)} (hF:∀b,F b→b<w.heap.size) (h:RNodeOn F (n+1) w cs (.node p l)) (hl9:l.length≤1000) {k:Nat} (hbd:Bnd n (kidAt l k)) (hk:k<l.length) :
 Calls Tryz.prog 165 #[.agg cs.toArray,.int .i64 (k:Int)] w (PartedTo F (n+1) w p l k):=by
 have H:=Hd h;obtain⟨a,c,rfl,h1,hfa⟩:=h.at;obtain⟨e1,e2,e3⟩:=h1.lens;obtain⟨m,hml⟩:∃m,cntT (.node p l)=m:=⟨_,rfl⟩
 have hlm:l.length=m:=hml;rw[hml] at h1 hfa e1 e2 ⊢;rw[hlm] at hk;have HFR:=Hd h1;obtain⟨b,off,y,pa,pn,pc,ka,kn,kc,rfl,hbb,hy,_,_,_,hkid,hfk,c0,c1,c2,c3⟩:=RNodeOn.cell h1 hk;rw[cellsR_node] at hy;obtain⟨x,hx1,hx2⟩:=Option.map_eq_some_iff.1 hy;subst hx2;obtain⟨xk,kid⟩:=x;have s1:=hkid.lens.1;obtain rfl:kn=1:=s1.symm;obtain⟨bk,ok,kd,kcs,rfl,hbk,hyk,_,hon,hck⟩:=TabR.at hkid (show 0<1 by omega);cases hyk;have hkey:keyAt l k=xk:=by unfold keyAt;rw[hx1];rfl
 have hkd:kidAt l k=kid:=by unfold kidAt;rw[hx1];rfl
 have hkb:Bnd n kid:=by rw[←hkd];exact hbd
 cases n with
 | zero=>exact hon.elim
 | succ n=>
 obtain⟨ak,ck,rfl,hkr,hfr⟩:=hon.at;have hm9:m≤1000:=by rw[←hlm];exact hl9
 have hsm:Small (sizesT kid):=hkb.small;have hkm9:cntT kid≤1000:=by
  cases kid with
  | leaf q r=>exact hkb.1
  | node q r=>exact hkb.1
 obtain⟨km,hkm⟩:∃x,cntT kid=x:=⟨_,rfl⟩
 obtain⟨kp,hkp⟩:∃x,kid.page=x:=⟨_,rfl⟩
 obtain⟨kl,hkl⟩:∃x,kid.isLeaf=x:=⟨_,rfl⟩
 rw[hkm,hkp,hkl] at hon hck;rw[hkm] at hkr hfr hkm9;show Calls _ _ #[.agg #[.int .i64 p,.bool false,.slice (some ⟨b,off,none⟩) m c],.int .i64 (k:Int)] _ _;have mfd5a90:=trivial;exact q873d2b
open Go.RowKit
theorem PartedTo.split {F:Nat→Prop} {n:Nat} {w w':World} {p:Int} {l:List (List UInt8×Tr)} {k:Nat} {e:Ending} (h:PartedTo F (n+1) w p l k e w') :
 ∃a1 c1,e=.returned (.tuple #[.agg #[.int .i64 (splitR p l k).page,.bool (splitR p l k).isLeaf,.slice a1 (cntT (splitR p l k)) c1],.bool (splitT l k).isSome])∧RNodeOn (Fr F w) (n+1) w' [.int .i64 (splitR p l k).page,.bool (splitR p l k).isLeaf,.slice a1 (cntT (splitR p l k)) c1] (splitR p l k)∧Below w.heap.size w w':=by
 obtain⟨cs,rfl,h1,h2⟩:=h;have e:(match splitT l k with|none=>Tr.node p l|some m=>Tr.node 0 m)=splitR p l k:=by
  unfold splitR;cases splitT l k<;>rfl
 have h1:RNodeOn (Fr F w) (n+1) w' cs (splitR p l k):=e ▸ h1;obtain⟨a,c,rfl,_⟩:=h1.at;exact⟨a,c,rfl,h1,h2⟩
theorem rmend_any {F:Nat→Prop} {n:Nat} {w:World} {cs:List Value} {p:Int} {l:List (List UInt8×Tr)} (hF:∀b,F b→b<w.heap.size) (h:RNodeOn F (n+2) w cs (.node p l)) (ho:MendOk n l) {k:Nat} (hk:k<l.length) :
 Calls Tryz.prog 127 #[.agg cs.toArray,.int .i64 (k:Int)] w (RNodeTo F (n+2) w (mendT p l k)):=by
 have H:=Hd h;obtain⟨a,c,rfl,h1,hfa⟩:=h.at;obtain⟨e1,e2,e3⟩:=h1.lens;obtain⟨m,hml⟩:∃m,cntT (.node p l)=m:=⟨_,rfl⟩
 have hlm:l.length=m:=hml;rw[hml] at h1 hfa e1 e2 ⊢;obtain⟨b,off,bk,ok,kcs,pa,pn,pc,kc,rfl,hbb,hbk,hon,d0,d1,d2,d3,hck,hkc1,hkc2⟩:=RNodeOn.kid h1 (show k<m by omega);have hm9:m≤1000:=by rw[←hlm];exact ho.len
 obtain⟨kid,hkd⟩:∃x,kidAt l k=x:=⟨_,rfl⟩
 obtain⟨kidm,hkm,hkx⟩:=kid_mem (l:=l) (k:=k) (by omega);have hkb:Bnd (n+1) kid:=by rw[←hkd,←hkx];exact ho.bnd _ hkm
 rw[hkd] at hon;obtain⟨ak,ck,rfl,hkr,hfr⟩:=hon.at;have hsm:Small (sizesT kid):=hkb.small;obtain⟨km,hkm⟩:∃x,cntT kid=x:=⟨_,rfl⟩
 obtain⟨kp,hkp⟩:∃x,kid.page=x:=⟨_,rfl⟩
 obtain⟨kl,hkl⟩:∃x,kid.isLeaf=x:=⟨_,rfl⟩
 rw[hkm,hkp,hkl] at hon hck;show Calls _ _ #[.agg #[.int .i64 p,.bool false,.slice (some ⟨b,off,none⟩) m c],.int .i64 (k:Int)] _ _;have m6924f0:=trivial;exact q873d2b
open Go.RowKit
theorem rtop_any:∀{N:Nat} {F:Nat→Prop} {w:World} {cs:List Value} {t:Tr},(∀b,F b→b<w.heap.size)→RNodeOn F N w cs t→TopOk N t→Calls Tryz.prog 87 #[.agg cs.toArray] w (RNodeTo F (N+1) w (topT N t))
 | 0,_,_,_,_,_,h,_=>h.elim
 | N+1,F,w,cs,t,hF,h,ho=>by
  have IH:=fun {F:Nat→Prop} {w:World} {cs:List Value} {t:Tr} (hF:∀b,F b→b<w.heap.size) (h:RNodeOn F N w cs t) (ho:TopOk N t)=>rtop_any hF h ho
  obtain⟨o1,o2,o3⟩:=ho;have H:=Hd h;obtain⟨a,c,rfl,h1,_⟩:=h.at;obtain⟨_,e2,e3⟩:=h1.lens;obtain⟨lf,hlf⟩:∃x,t.isLeaf=x:=⟨_,rfl⟩
  obtain⟨p,hp⟩:∃x,t.page=x:=⟨_,rfl⟩
  obtain⟨m,hm⟩:∃x,cntT t=x:=⟨_,rfl⟩
  have hm9:m≤1000:=by rw[←hm];cases t<;>exact o1.1
  rw[hlf,hp,hm] at h H;rw[hm] at h1 e2;rw[hlf,hp,hm];have m9681f1:=trivial;exact qa4f6b9
open Go.RowKit
theorem rput_node {N:Nat} {key d:List UInt8} (IH:∀{F:Nat→Prop} {w:World} {cs:List Value} {t:Tr},(∀b,F b→b<w.heap.size)→RNodeOn F N w cs t→PutOk N t key ⟨d,[]⟩→Calls Tryz.prog 88 #[.agg cs.toArray,.string (strOf key),.string (strOf d)] w (RNodeTo F N w (putT N t key ⟨d,[]⟩)))
 {F:Nat→Prop} {w:World} {cs:List Value} {p:Int} {l:List (List UInt8×Tr)} (hF:∀b,F b→b<w.heap.size) (h:RNodeOn F (N+1) w cs (.node p l)) (ho:PutOk (N+1) (.node p l) key ⟨d,[]⟩) :
 Calls Tryz.prog 88 #[.agg cs.toArray,.string (strOf key),.string (strOf d)] w (RNodeTo F (N+1) w (putT (N+1) (.node p l) key ⟨d,[]⟩)):=by
 obtain⟨o1,o2,o3,M,rfl,o4⟩:=ho;have H:=Hd h;obtain⟨a,c,rfl,h1,hfa⟩:=h.at;obtain⟨e1,e2,e3⟩:=h1.lens;obtain⟨m,hml⟩:∃m,cntT (.node p l)=m:=⟨_,rfl⟩
 have hlm:l.length=m:=hml;rw[hml] at h1 hfa e1 e2 ⊢;obtain⟨k,hk⟩:∃k,wayF (keysOf l) key=k:=⟨_,rfl⟩
 have hkm:k<m:=by rw[←hk,←hlm,←show(keysOf l).length=l.length by simp[keysOf]];exact wayF_lt key (by simpa[keysOf] using o1)
 have hput:putT (M+1+1) (.node p l) key ⟨d,[]⟩=mendT 0 (l.set k (keyAt l k,putT (M+1) (kidAt l k) key ⟨d,[]⟩)) k:=by rw[←hk];rfl
 rw[hk] at o3 o4;rw[hput];obtain⟨b,off,bk,ok,kcs,pa,pn,pc,kc,rfl,hbb,hbk,hon,d0,d1,d2,d3,hck,hkc1,hkc2⟩:=RNodeOn.kid h1 hkm;have hm9:m≤1000:=by rw[←hlm];exact o2
 obtain⟨kid,hkd⟩:∃x,kidAt l k=x:=⟨_,rfl⟩
 obtain⟨kj,hkj⟩:∃x,keyAt l k=x:=⟨_,rfl⟩
 rw[hkd] at hon o3 o4 ⊢;rw[hkj] at d0 o4 ⊢;obtain⟨T,hT⟩:∃x,putT (M+1) kid key ⟨d,[]⟩=x:=⟨_,rfl⟩
 have IH:=fun {F:Nat→Prop} {w:World} {cs:List Value} (h1:∀b,F b→b<w.heap.size) (h2:RNodeOn F (M+1) w cs kid)=>IH h1 h2 o3
 rw[hT] at IH o4 ⊢;obtain⟨L2,hL2⟩:∃x,l.set k (kj,T)=x:=⟨_,rfl⟩
 have q2:=set_cells (show k<l.length by omega) p kj T;have q3:L2.length=m:=by rw[←hL2,List.length_set];exact hlm
 rw[hL2] at o4 q2 ⊢;obtain⟨ak,ck,rfl,_,_⟩:=hon.at;obtain⟨km,hkm'⟩:∃x,cntT kid=x:=⟨_,rfl⟩
 obtain⟨kp,hkp⟩:∃x,kid.page=x:=⟨_,rfl⟩
 obtain⟨kl,hkl⟩:∃x,kid.isLeaf=x:=⟨_,rfl⟩
 rw[hkm',hkp,hkl] at hon hck;show Calls _ _ #[.agg #[.int .i64 p,.bool false,.slice (some ⟨b,off,none⟩) m c],.string (strOf key),.string (strOf d)] _ _;have m489206:=trivial;exact q873d2b
open Go.RowKit
theorem putL_cells (key:List UInt8) (v:Tv) (p:Int) (l:List (List UInt8×Tv)) :
 cellsR (.leaf 0 (putL key v l))=(cellsR (.leaf p l)).take (posK key (keysOf l))++[⟨key,v,none⟩]++(cellsR (.leaf p l)).drop (posK key (keysOf l)+(if hasK key (keysOf l) then 1 else 0)):=by
 rw[putL_pos];simp[cellsR,List.map_take,List.map_drop]
theorem RcOn.fresh (F:Nat→Prop) (n:Nat) (w:World) (key d:List UInt8):RcOn F n w [.string (strOf key),.string (strOf d),.slice none 0 0,.slice none 0 0] ⟨key,⟨d,[]⟩,none⟩:=
 ⟨none,0,0,none,0,0,rfl,⟨rfl,Nat.le_refl _,by unfold maxLen;omega,fun _=>rfl,.inl rfl⟩,.inl rfl,TabR.nil _,.inl rfl⟩
theorem rput_leaf {n:Nat} {key d:List UInt8} {F:Nat→Prop} {w:World} {cs:List Value} {p:Int} {l:List (List UInt8×Tv)} (hF:∀b,F b→b<w.heap.size) (h:RNodeOn F (n+1) w cs (.leaf p l)) (hl9:l.length≤900) :
 Calls Tryz.prog 88 #[.agg cs.toArray,.string (strOf key),.string (strOf d)] w (RNodeTo F (n+1) w (.leaf 0 (putL key ⟨d,[]⟩ l))):=by
 have H:=Hd h;obtain⟨a,c,rfl,h1,hfa⟩:=h.at;obtain⟨e1,e2,e3⟩:=h1.lens;obtain⟨m,hml⟩:∃m,cntT (.leaf p l)=m:=⟨_,rfl⟩
 have hlm:l.length=m:=hml;rw[hml] at h1 hfa e1 e2 ⊢;have hm9:m≤900:=by rw[←hlm];exact hl9
 have hcells:=putL_cells key ⟨d,[]⟩ p l;have hPm:posK key (keysOf l)≤m:=by have:=posK_le key (keysOf l);rw[←hlm];simpa[keysOf] using this
 have hlt:∀i,i<posK key (keysOf l)→(keysOf l)[i]?.getD []<key:=fun i hi=>posK_lt hi
 have hat:posK key (keysOf l)<m→¬(keysOf l)[posK key (keysOf l)]?.getD []<key:=fun hi=>posK_at (by rw[←hlm] at hi;simpa[keysOf] using hi)
 have hhas:hasK key (keysOf l)=((keysOf l)[posK key (keysOf l)]? == some key):=rfl;obtain⟨P,hP⟩:∃P,posK key (keysOf l)=P:=⟨_,rfl⟩
 rw[hP] at hcells hPm hlt hat hhas;obtain⟨hs,hhs⟩:∃x,hasK key (keysOf l)=x:=⟨_,rfl⟩
 rw[hhs] at hcells hhas;have hkey:∀(i:Nat) (y:Rc),(cellsR (.leaf p l))[i]? = some y→(keysOf l)[i]? = some y.key:=fun i y hy=>by
  rw[cellsR_leaf] at hy;obtain⟨x,hx1,hx2⟩:=Option.map_eq_some_iff.1 hy;subst hx2;simp[keysOf,hx1]
 obtain⟨R,hR⟩:∃x,putL key ⟨d,[]⟩ l=x:=⟨_,rfl⟩
 rw[hR] at hcells ⊢;show Calls _ _ #[.agg #[.int .i64 p,.bool true,.slice a m c],.string (strOf key),.string (strOf d)] _ _;obtain⟨W2,hW2⟩:∃x,(w.alloc (.cells #[.int .i64 p,.bool true,.slice a m c] 27)).alloc (.cells #[.int .i64 0,.bool false,.slice none 0 0] 27)=x:=⟨_,rfl⟩
 have hb2:Below w.heap.size w W2:=by rw[←hW2];exact Below.al (Below.al (Below.refl _ _))
 have hx2:Boxes W2 [(w.heap.size+1,[.int .i64 0,.bool false,.slice none 0 0]),(w.heap.size,[.int .i64 p,.bool true,.slice a m c])]:=by
  rw[←hW2];exact((Boxes.nil w).alloc #[.int .i64 p,.bool true,.slice a m c] 27 (b:=w.heap.size) rfl).alloc #[.int .i64 0,.bool false,.slice none 0 0] 27 (b:=w.heap.size+1) (by simp)
 have hsz2:W2.heap.size=w.heap.size+2:=by rw[←hW2];simp
 have n1:=hx2.cell 1 1 rfl rfl;have HX2:=Hd hx2;have HB2:=Hd hb2;have HR:=Hd h1;have HC:=Hd hcells;have HLT:=Hd hlt;have HAT:=Hd hat;have HHAS:=Hd hhas;have HKEY:=Hd hkey;have HLM:=Hd hlm;have hcl:(cellsR (.leaf p l)).length=m:=by rw[cellsR_len];exact hml
 have HCL:=Hd hcl;clear hx2 hb2 h1 h hfa hml e1 hcells hlt hat hhas hkey hlm hR hP hhs hl9 hcl;go_enter Tryz.func88,Tryz.ntmps88
 go_upto_block 0 with(fail)
 obtain⟨W3,hW3⟩:∃x,x=W2.alloc (.cells #[.string (strOf key),.string (strOf d),.slice none 0 0,.slice none 0 0] 145):=⟨_,rfl⟩
 rw[←hW3];have hb3:Below w.heap.size w W3:=by rw[hW3];exact Below.al HB2.out
 have hx3:Boxes W3 [(w.heap.size+2,[.string (strOf key),.string (strOf d),.slice none 0 0,.slice none 0 0]),(w.heap.size+1,[.int .i64 0,.bool false,.slice none 0 0]),(w.heap.size,[.int .i64 p,.bool true,.slice a m c])]:=by
  rw[hW3];exact HX2.out.alloc #[.string (strOf key),.string (strOf d),.slice none 0 0,.slice none 0 0] 145 (b:=w.heap.size+2) (by omega)
 have hs3:W3.heap.size=w.heap.size+3:=by rw[hW3];simp;omega
 have n2:=hx3.cell 2 2 rfl rfl;have HX3:=Hd hx3;have HB3:=Hd hb3;have HS3:=Hd hs3;have hF3:∀b,F b→b<W3.heap.size:=fun b hb=>by have:=hF b hb;omega
 have HF3:=Hd hF3;clear hx3 hb3 hW3 hW2 hs3 hF3 n1;go_wp2_with fail
 go_loop [10] (fun s=>∃i:Nat,i≤P∧s=.int .i64 i) (fun s=>P-(intOf s).toNat)
 case atStart=>exact⟨0,Nat.zero_le _,rfl⟩
 case round=>
  obtain⟨i,hi,rfl⟩:=hrel
  by_cases hiP:i<P
  ·obtain⟨b,off,y,_,_,_,_,_,_,rfl,hbb,hy,_,_,_,_,_,e0,_⟩:=RNodeOn.cell HR.out (show i<m by omega)
   have hk:y.key<key:=by
    have:=HLT.out i hiP;rw[HKEY.out i y hy] at this;exact this
   obtain⟨c1,c2,c3,c4⟩:=cmp_lt hk;have v0:=(HB3.out.cell (p:=⟨b,off+i*4,none⟩) hbb).trans e0;have him:(i:Int)<(m:Int):=by omega
   clear hk hy e0;go_wp2_with fail
   go_round
   case rel=>exact⟨i+1,by omega,by go_num⟩
   case measure=>simp[intOf];omega
  ·obtain rfl:i=P:=by omega
   by_cases hPm':i<m
   ·obtain⟨b,off,y,_,_,_,_,_,_,rfl,hbb,hy,_,_,_,_,_,e0,_⟩:=RNodeOn.cell HR.out (show i<m by omega)
    have v0:=(HB3.out.cell (p:=⟨b,off+i*4,none⟩) hbb).trans e0;have him:(i:Int)<(m:Int):=by omega
    have hna:¬y.key<key:=by
     have:=HAT.out hPm';rw[HKEY.out i y hy] at this;exact this
    have hha:=HHAS.out;rw[HKEY.out i y hy] at hha
    rcases ktri y.key key with hk|hk|hk
    ·exact absurd hk hna
    ·obtain rfl:hs=true:=by rw[hha,hk];simp
     obtain⟨c1,c2⟩:=cmp_eq key;rw[hk] at v0;have hcr:=HC.out;rw[if_pos rfl] at hcr;have hcnt:cntT (.leaf 0 R)=m:=by
      have:=congrArg List.length hcr;rw[cellsR_len] at this;simp only[List.length_append,List.length_take,List.length_drop,List.length_singleton,HCL.out] at this;omega
     obtain⟨W4,hW4⟩:∃x,W3.alloc (.cells #[.string (strOf key),.string (strOf d),.slice none 0 0,.slice none 0 0] 145)=x:=⟨_,rfl⟩
     have hb34:Below W3.heap.size W3 W4:=by rw[←hW4];exact Below.al (Below.refl _ _)
     have hz:BoxAt W4 W3.heap.size #[.string (strOf key),.string (strOf d),.slice none 0 0,.slice none 0 0]:=by rw[←hW4];exact BoxAt.here
     have hb4:=below_via HB3.out hb34;have CW3:=with_to (G:=Fr F W3) (n:=n) (wc:=W4) (W:=W4) (t:=.leaf 0 R) rfl hcnt hcr (Below.refl _ _) (fun b hb=>.inr (by have:=hb34.size;omega)) (TabR.mono (TabR.below (Nat.le_refl _) hb4 HR.out) (fun _ _ hy=>RcOn.mono (fun b hf=>Fr.old b hf) (RcOn.below hy hb4))) (one_cell hz (RcOn.fresh _ _ _ key d)) hPm' (by omega) (by omega);have hx4:=HX3.out.step hb34;have m0:=HX3.out.cell 0 0 rfl rfl;have m1:=HX3.out.cell 0 1 rfl rfl;have m2:=HX3.out.cell 0 2 rfl rfl;have m3:=HX3.out.cell 0 3 rfl rfl;have HX4:=Hd hx4;have HB4:=Hd hb4;clear hx4 hb4 hz hb34 hcr hcnt hna hha hk e0 hy;subst hW4;go_wp2_with fail;refine CW3.mono ?_;rintro e w5 ⟨a5,d5,rfl,n5',hb5⟩;have n5:RNodeOn (Fr F W3) (n+1) w5 [.int .i64 0,.bool true,.slice a5 m d5] (.leaf 0 R):=n5';have hx5:=HX4.out.step hb5;have z0:=hx5.cell 1 0 rfl rfl;have z1:=hx5.cell 1 1 rfl rfl;have z2:=hx5.cell 1 2 rfl rfl;have y0:=hx5.frozen 1 0 rfl;have y1:=hx5.frozen 1 1 rfl;have y2:=hx5.frozen 1 2 rfl;obtain⟨t0,t1,t2,HE⟩:=rend (F:=F) (w:=w) (hx5.sub (m:=[(w.heap.size+1,[.int .i64 0,.bool false,.slice none 0 0])]) (by simp)) (by omega) (fun hg=>by
      have:=HS3.out
      rcases hg with hg|hg
      ·have:=hF _ hg;omega
      ·omega) (fun b hb=>by
      have:=HS3.out
      rcases hb with hb|hb
      ·exact .inl hb
      ·exact .inr (by omega)) n5 (below_via HB4.out hb5)
     clear n5 hb5 CW3 hx5 n5';go_wp2_with fail;refine bodyPost_ret (v:=.agg #[.int .i64 0,.bool true,.slice a5 (m) d5]) (by simp only[results,Tryz.results88];simp[go_sem,t0,t1,t2]) rfl HE.out
    ·obtain rfl:hs=false:=by rw[hha];simp;intro e;rw[e] at hk;exact klt_irrefl _ hk
     obtain⟨c1,c2,c3,c4⟩:=cmp_lt hk;clear hna hha hk e0 hy;have m927b3c:=trivial;exact q358edb
   ·obtain rfl:hs=false:=by
     rw[HHAS.out,List.getElem?_eq_none (by have:=HLM.out;simp[keysOf];omega)]
     rfl
    have him:decide ((i:Int)<(m:Int))=false:=by simp;omega
    have ma25a98:=trivial;exact q358edb
open Go.RowKit
theorem RNodeOn.less {F:Nat→Prop}:∀{m n:Nat} {lo hi:List UInt8} {w:World} {cs:List Value} {t:Tr},RNodeOn F n w cs t→Shape m lo hi t→RNodeOn F m w cs t
 | 0,_,_,_,_,_,_,_,h=>h.elim
 | _,0,_,_,_,_,_,h,_=>h.elim
 | m+1,n+1,lo,hi,w,cs,.leaf p l,h,_=>by
  obtain⟨a,c,e,h1,f1⟩:=h.at;refine⟨a,c,e,TabR.agree h1 (Fa.mono f1 (fun _ h=>h)) (AgreeF.refl w) (fun cs y hy h=>?_),f1⟩;obtain⟨pa,pn,pc,ka,kn,kc,e,k1,f1,k2,f2⟩:=h;obtain⟨x,_,rfl⟩:=List.mem_map.1 hy;exact⟨pa,pn,pc,ka,kn,kc,e,k1,f1,TabR.agree k2 (Fa.mono f2 (fun _ h=>h)) (AgreeF.refl w) (fun cs y hy h=>by cases hy),f2⟩
 | m+1,n+1,lo,hi,w,cs,.node p l,h,hs=>by
  obtain⟨a,c,e,h1,f1⟩:=h.at;have hall:=node_kids hs;refine⟨a,c,e,TabR.agree h1 (Fa.mono f1 (fun _ h=>h)) (AgreeF.refl w) (fun cs y hy h=>?_),f1⟩;obtain⟨pa,pn,pc,ka,kn,kc,e,k1,f1,k2,f2⟩:=h;obtain⟨x,hx,rfl⟩:=List.mem_map.1 hy;obtain⟨_,lo',hi',g,_⟩:=hall x hx;exact⟨pa,pn,pc,ka,kn,kc,e,k1,f1,TabR.agree k2 (Fa.mono f2 (fun _ h=>h)) (AgreeF.refl w) (fun cs y hy h=>by
   have:y=x.2:=by simpa using hy
   subst this;exact RNodeOn.less h g),f2⟩
theorem rput_any:∀{N:Nat} {F:Nat→Prop} {w:World} {cs:List Value} {t:Tr} (key d:List UInt8),(∀b,F b→b<w.heap.size)→RNodeOn F N w cs t→PutOk N t key ⟨d,[]⟩ →
 Calls Tryz.prog 88 #[.agg cs.toArray,.string (strOf key),.string (strOf d)] w (RNodeTo F N w (putT N t key ⟨d,[]⟩))
 | 0,_,_,_,_,_,_,_,h,_=>h.elim
 | _+1,_,_,_,.leaf _p _l,_key,_d,hF,h,ho=>rput_leaf hF h ho.1
 | _N+1,_,_,_,.node _p _l,key,d,hF,h,ho=>rput_node (fun h1 h2 h3=>rput_any key d h1 h2 h3) hF h ho
theorem rPut_any {N:Nat} {F:Nat→Prop} {w:World} {cs:List Value} {t:Tr} (key d:List UInt8) (hF:∀b,F b→b<w.heap.size) (h:RNodeOn F N w cs t) (ho:PutOk N t key ⟨d,[]⟩) (ht:TopOk N (putT N t key ⟨d,[]⟩)) :
 Calls Tryz.prog 42 #[.agg cs.toArray,.string (strOf key),.string (strOf d)] w (RNodeTo F (N+1) w (putW N t key ⟨d,[]⟩)):=by
 cases N with
 | zero=>exact h.elim
 | succ N=>
 obtain⟨a,c,rfl,_,_⟩:=h.at;obtain⟨lf,hlf⟩:∃x,t.isLeaf=x:=⟨_,rfl⟩
 obtain⟨p,hp⟩:∃x,t.page=x:=⟨_,rfl⟩
 obtain⟨m,hm⟩:∃x,cntT t=x:=⟨_,rfl⟩
 rw[hlf,hp,hm] at h ⊢;have m71d1c8:=trivial;exact qa4f6b9
theorem rPut_whole {n:Nat} {F:Nat→Prop} {w:World} {cs:List Value} {t:Tr} (hF:∀b,F b→b<w.heap.size) (h:RNodeOn F n w cs t) (hw:Whole n t) (key d:List UInt8) (hk:keyOk key) (hd:d.length≤400) :
 Calls Tryz.prog 42 #[.agg cs.toArray,.string (strOf key),.string (strOf d)] w (RNodeTo F (n+1) w (putW n t key ⟨d,[]⟩)):=by
 have hv:valOk ⟨d,[]⟩:=⟨hd,fun h=>absurd rfl h⟩
 obtain⟨h1,h2⟩:=hw.put hk hv;exact rPut_any key d hF h h1 h2
theorem rempty_any (w:World) (F:Nat→Prop):Calls Tryz.prog 41 #[] w (RNodeTo F 1 w (.leaf 0 [])):=by
 go_enter Tryz.func41,Tryz.ntmps41;go_wp2_with fail;refine bodyPost_ret (v:=.agg #[.int .i64 0,.bool true,.slice none 0 0]) (by simp[results,Tryz.results41,go_sem]) rfl ⟨[.int .i64 0,.bool true,.slice none 0 0],rfl,?_,?_⟩
 ·exact RNodeOn.mk (t:=.leaf 0 []) (TabR.nil _) (Fa.zero _ _)
 ·exact Below.al (Below.refl _ _)
open Go.RowKit
open Go.RowKit
def RBox (B b:Nat) (wr:World) (N:Nat) (t:Tr):Prop:=
 ∃p l a m d,Boxes wr [(b,[.int .i64 p,.bool l,.slice a m d])]∧RNodeOn (fun x=>B≤x) N wr [.int .i64 p,.bool l,.slice a m d] t
def RStay (B b:Nat) (w wr:World) (M:Nat) (T:Tr) (wx:World):Prop:=RBox B b wx M T∧AgreeF (fun x=>x≠b) wr wx∧Below w.heap.size w wx
theorem RStay.mk {B b:Nat} {w wr w9:World} {M:Nat} {T:Tr} {x0 x1 x2:Value} {p:Int} {l:Bool} {a:Option Addr} {m d:Nat} (hx:Boxes w9 [(b,[x0,x1,x2])]) (h:RNodeOn (fun x=>B≤x) M w9 [.int .i64 p,.bool l,.slice a m d] T) (hb:b<B) (hA:AgreeF (fun x=>x≠b) wr w9) (hB:Below w.heap.size w w9) (hle:w.heap.size≤b) :
 RStay B b w wr M T (((w9.setCell ⟨b,0,none⟩ (.int .i64 p)).setCell ⟨b,1,none⟩ (.bool l)).setCell ⟨b,2,none⟩ (.slice a m d)):=
 ⟨⟨p,l,a,m,d,((hx.put 0 (.int .i64 p) (by simp)).put 1 (.bool l) (by simp)).put 2 (.slice a m d) (by simp),h.put3 (by omega) _ _ _⟩,((hA.st).st).st,((hB.setCell (by simpa using hle) _).setCell (by simpa using hle) _).setCell (by simpa using hle) _⟩
def RGo (G:Nat→Prop) (n:Nat) (w:World) (t:Tr) (e:Ending) (w':World):Prop:=∃p l a m d,e=.returned (.agg #[.int .i64 p,.bool l,.slice a m d])∧RNodeOn G n w' [.int .i64 p,.bool l,.slice a m d] t∧Below w.heap.size w w'
theorem RNodeTo.go {F G:Nat→Prop} {n M:Nat} {W w':World} {T:Tr} {e:Ending} {lo hi:List UInt8} (h:RNodeTo F n W T e w') (hG:∀b,Fr F W b→G b) (hs:Shape M lo hi T):RGo G M W T e w':=by
 obtain⟨p,l,a,m,d,e,h1,h2⟩:=h.split;exact⟨p,l,a,m,d,e,(h1.mono hG).less hs,h2⟩
theorem rempty_on {F G:Nat→Prop} {w:World} {cs:List Value} (h:RNodeOn G 1 w cs (.leaf 0 [])):∃a c,cs=[.int .i64 0,.bool true,.slice a 0 c]∧RNodeOn F 1 w cs (.leaf 0 []):=by
 obtain⟨a,c,rfl,h1,_⟩:=h.at;refine⟨a,c,rfl,RNodeOn.mk (t:=.leaf 0 []) ?_ (Fa.zero _ _)⟩;obtain⟨g1,g2,g3,g4,g5⟩:=h1;exact⟨g1,g2,g3,g4,.inl rfl⟩
open Go.RowKit
section
variable {P:Program}
theorem step_make_run {ops:Array Oper} {o:Oper} {a:Act} {w:World} {K:Act→World→Prop} {Q:Exit→Act→World→Prop} {E:Prop} (hgd:o.guard=none) (t:TypeId) (x y:Operand) (ho:o.op=.makeSlice t x y) {v u r:Value} {w':World} (hx:a.eval x=v) (hy:a.eval y=u)
 (hr:(Instr.makeSlice t v u).run P w=.ok r w') (h:K (a.put o.dst r) w'):if Region.wanted o (yielded ops a.tmps)=true then Oper.wp P o a w K Q else E:=by
 exact q9332b0
theorem step_convert_run {ops:Array Oper} {o:Oper} {a:Act} {w:World} {K:Act→World→Prop} {Q:Exit→Act→World→Prop} {E:Prop} (hgd:o.guard=none) (s t:TypeId) (x:Operand) (ho:o.op=.convert s t x) {v r:Value} {w':World} (hx:a.eval x=v)
 (hr:(convert s t v).run P w=.ok r w') (h:K (a.put o.dst r) w'):if Region.wanted o (yielded ops a.tmps)=true then Oper.wp P o a w K Q else E:=by
 exact q0da5fb
end
open Go.RowKit
def IsTx (cs:List Value) (s:List UInt8):Prop:=cs=[.string (strOf s)]
def Txs (w:World) (a:Option Addr) (len cap:Nat) (l:List (List UInt8)):Prop:=TabR 1 IsTx w a len cap l
theorem Txs.at {w:World} {a:Option Addr} {len cap:Nat} {l:List (List UInt8)} (h:Txs w a len cap l) {k:Nat} (hk:k<len) :
 ∃b off s,a=some ⟨b,off,none⟩∧b<w.heap.size∧l[k]? = some s∧w.cell? ⟨b,off+k,none⟩=some (.string (strOf s)):=by
 obtain⟨b,off,y,cs,e1,e2,e3,_,e5,e6⟩:=TabR.at h hk;have e5':cs=[.string (strOf y)]:=e5;subst e5';have:=e6 0 _ rfl;exact⟨b,off,y,e1,e2,e3,by simpa using this⟩
def strV (s:List UInt8):Value:=.string (strOf s)
theorem fm_sing:∀P:List (List UInt8),P.flatMap (fun y=>[strV y])=P.map strV
 | []=>rfl
 | y::l=>by rw[List.flatMap_cons,fm_sing l];rfl
theorem txs_own2 {w:World} {base:Nat} {v:Value} {ks:List (List UInt8)} (h:w.ownsRow base 9 1 v ks.length (ks.map strV)):∃a cap,v=.slice a ks.length cap∧Txs w a ks.length cap ks:=by
 obtain⟨a,cap,e,ht⟩:=TabR.of_own (fun s=>[strV s]) (fun _=>rfl) (R:=fun cs s=>cs=[strV s]) (fun _=>rfl) (l:=ks) (by rw[fm_sing];exact h);exact⟨a,cap,e,ht⟩
theorem info_str2:(Tryz.prog.info? 9).map (fun i=>(i.zero,i.size,i.bytes))=some (some (.string ByteArray.empty),1,16):=by kernel_rfl
theorem cntR_loose (x:Rg):(cntR x).loose=x.loose:=by unfold cntR;split<;>(try split)<;>rfl
open Go.RowKit
abbrev C4:={ l:List Value // l.length=4∧∀v∈l,v.oneCell'=true }
def lcells (y:Nat×P128):List Value:=[.int .i64 (y.1:Int),.string (strOf y.2.1)]
theorem lcells_length (y:Nat×P128):(lcells y).length=2:=rfl
def Ls (w:World) (a:Option Addr) (len cap:Nat) (l:List (Nat×P128)):Prop:=TabR 2 (fun cs y=>cs=lcells y) w a len cap l
def pagesL (x:Rg):List (List UInt8):=(List.range x.size).map fun p=>(x.pages p).1
theorem pagesL_length (x:Rg):(pagesL x).length=x.size:=by simp[pagesL]
def IsG (w:World) (g:List Value) (x:Rg):Prop:=∃pa pc la lc,g=[.slice pa x.size pc,.slice la x.loose.length lc,.int .i64 x.left,.bool x.down]∧Txs w pa x.size pc (pagesL x)∧Ls w la x.loose.length lc x.loose∧x.size≤1000∧(∀p∈x.loose,p.1<x.size) ∧ -1≤x.left∧x.left≤9223372036854775807
theorem IsG.below {B:Nat} {w w':World} {g:List Value} {x:Rg} (h:IsG w g x) (hB:w.heap.size≤B) (hb:Below B w w'):IsG w' g x:=by
 obtain⟨pa,pc,la,lc,h1,h2,h3,h4⟩:=h;exact⟨pa,pc,la,lc,h1,TabR.below hB hb h2,TabR.below hB hb h3,h4⟩
def Gs (w:World) (a:Option Addr) (len cap:Nat) (d:List Rg):Prop:=d.length=len∧∃gs:List C4,TabR 4 (fun cs (y:C4)=>cs=y.1) w a len cap gs∧∀(i:Nat) (g:C4) (x:Rg),gs[i]? = some g→d[i]? = some x→IsG w g.1 x
theorem Gs.below {B:Nat} {w w':World} {a:Option Addr} {len cap:Nat} {d:List Rg} (h:Gs w a len cap d) (hB:w.heap.size≤B) (hb:Below B w w'):Gs w' a len cap d:=by
 obtain⟨h1,gs,h2,h3⟩:=h;exact⟨h1,gs,TabR.below hB hb h2,fun i g x hg hx=>(h3 i g x hg hx).below hB hb⟩
theorem Gs.at {w:World} {a:Option Addr} {len cap:Nat} {d:List Rg} (h:Gs w a len cap d) {i:Nat} {x:Rg} (hx:d[i]? = some x) :
 ∃b off pa pc la lc,a=some ⟨b,off,none⟩∧b<w.heap.size∧w.cell? ⟨b,off+i*4,none⟩=some (.slice pa x.size pc)∧w.cell? ⟨b,off+i*4+1,none⟩=some (.slice la x.loose.length lc)∧w.cell? ⟨b,off+i*4+2,none⟩=some (.int .i64 x.left)∧w.cell? ⟨b,off+i*4+3,none⟩=some (.bool x.down) ∧
  Txs w pa x.size pc (pagesL x)∧Ls w la x.loose.length lc x.loose∧x.size≤1000∧(∀p∈x.loose,p.1<x.size) ∧ -1≤x.left∧x.left≤9223372036854775807:=by
 obtain⟨h1,gs,h2,h3⟩:=h;have hi:i<len:=by rw[←h1];exact(List.getElem?_eq_some_iff.1 hx).1
 obtain⟨b,off,y,cs,e1,e2,e3,_,e5,e6⟩:=TabR.at h2 hi;obtain⟨pa,pc,la,lc,g1,g2,g3,g4,g5,g6⟩:=h3 i y x e3 hx;have e7:cs=[.slice pa x.size pc,.slice la x.loose.length lc,.int .i64 x.left,.bool x.down]:=e5.trans g1;subst e7;exact⟨b,off,pa,pc,la,lc,e1,e2,by simpa using e6 0 _ rfl,e6 1 _ rfl,e6 2 _ rfl,e6 3 _ rfl,g2,g3,g4,g5,g6⟩
def Agree (K:Nat→Prop) (w W:World):Prop:=w.heap.size≤W.heap.size∧∀k o,K k→w.heap[k]? = some o→W.heap[k]? = some o
theorem Agree.refl (K:Nat→Prop) (w:World):Agree K w w:=⟨Nat.le_refl _,fun _ _ _ h=>h⟩
theorem Agree.trans {K:Nat→Prop} {w1 w2 w3:World} (h:Agree K w1 w2) (h2:Agree K w2 w3):Agree K w1 w3:=⟨Nat.le_trans h.1 h2.1,fun k o hk ho=>h2.2 k o hk (h.2 k o hk ho)⟩
theorem Agree.mono {K K2:Nat→Prop} {w W:World} (h:Agree K2 w W) (hK:∀k,K k→K2 k):Agree K w W:=⟨h.1,fun k o hk ho=>h.2 k o (hK k hk) ho⟩
theorem agree_below {K:Nat→Prop} {w w':World} (hb:Below w.heap.size w w'):Agree K w w':=
 ⟨hb.size,fun k o _ ho=>by rw[hb.block k (Array.getElem?_eq_some_iff.1 ho).1];exact ho⟩
def From (K:Nat→Prop) (B:Nat) (k:Nat):Prop:=K k∨B≤k
theorem Agree.step {K:Nat→Prop} {w w' W:World} (hb:Below w.heap.size w w') (h:Agree (From K w.heap.size) w' W):Agree K w W:=(agree_below hb).trans (h.mono fun _ hk=>.inl hk)
theorem TabR.agreeK {α:Type} {sz:Nat} {R:List Value→α→Prop} {w:World} {a:Option Addr} {len cap:Nat} {l:List α} (h:TabR sz R w a len cap l) {K:Nat→Prop} (hK:∀b off,a=some ⟨b,off,none⟩→K b):∀W,Agree K w W→TabR sz R W a len cap l:=by
 intro W hW;obtain⟨h1,h2,h3,hn,h4⟩:=h;refine⟨h1,h2,h3,hn,?_⟩
 rcases h4 with h4|⟨b,off,h5,h6,h7⟩
 ·exact .inl h4
 ·have hbk:W.heap[b]? = w.heap[b]? := by
   rw[Array.getElem?_eq_getElem h6];exact hW.2 b _ (hK b off h5) (Array.getElem?_eq_getElem h6)
  exact .inr ⟨b,off,h5,by have:=hW.1;omega,fun i y hy=>by
   obtain⟨cs,c1,c2,c3⟩:=h7 i y hy;exact⟨cs,c1,c2,fun j v hv=>(World.cell?_of_block hbk).trans (c3 j v hv)⟩⟩
def GsK (K:Nat→Prop) (w:World) (a:Option Addr) (len cap:Nat) (d:List Rg):Prop:=d.length=len∧∃gs:List C4,(∀W,Agree K w W→TabR 4 (fun cs (y:C4)=>cs=y.1) W a len cap gs)∧∀(i:Nat) (g:C4) (x:Rg),gs[i]? = some g→d[i]? = some x→∀W,Agree K w W→IsG W g.1 x
theorem GsK.gs {K:Nat→Prop} {w:World} {a:Option Addr} {len cap:Nat} {d:List Rg} (h:GsK K w a len cap d):Gs w a len cap d:=by
 obtain⟨h1,gs,h2,h3⟩:=h;exact⟨h1,gs,h2 w (Agree.refl _ _),fun i g x hg hx=>h3 i g x hg hx w (Agree.refl _ _)⟩
theorem GsK.agree {K:Nat→Prop} {w w':World} {a:Option Addr} {len cap:Nat} {d:List Rg} (h:GsK K w a len cap d) (hA:Agree K w w'):GsK K w' a len cap d:=by
 obtain⟨h1,gs,h2,h3⟩:=h;exact⟨h1,gs,fun W hW=>h2 W (hA.trans hW),fun i g x hg hx W hW=>h3 i g x hg hx W (hA.trans hW)⟩
theorem GsK.below {K:Nat→Prop} {w w':World} {a:Option Addr} {len cap:Nat} {d:List Rg} (h:GsK K w a len cap d) (hb:Below w.heap.size w w'):GsK K w' a len cap d:=h.agree (agree_below hb)
theorem GsK.mono {K K2:Nat→Prop} {w:World} {a:Option Addr} {len cap:Nat} {d:List Rg} (h:GsK K w a len cap d) (hK:∀k,K k→K2 k):GsK K2 w a len cap d:=by
 obtain⟨h1,gs,h2,h3⟩:=h;exact⟨h1,gs,fun W hW=>h2 W (hW.mono hK),fun i g x hg hx W hW=>h3 i g x hg hx W (hW.mono hK)⟩
theorem GsK.at {K:Nat→Prop} {w:World} {a:Option Addr} {len cap:Nat} {d:List Rg} (h:GsK K w a len cap d) {i:Nat} {x:Rg} (hx:d[i]? = some x) :
 ∃b off pa pc la lc,a=some ⟨b,off,none⟩∧b<w.heap.size∧w.cell? ⟨b,off+i*4,none⟩=some (.slice pa x.size pc)∧w.cell? ⟨b,off+i*4+1,none⟩=some (.slice la x.loose.length lc)∧w.cell? ⟨b,off+i*4+2,none⟩=some (.int .i64 x.left)∧w.cell? ⟨b,off+i*4+3,none⟩=some (.bool x.down) ∧
  (∀W,Agree K w W→Txs W pa x.size pc (pagesL x))∧(∀W,Agree K w W→Ls W la x.loose.length lc x.loose)∧x.size≤1000∧(∀p∈x.loose,p.1<x.size) ∧ -1≤x.left∧x.left≤9223372036854775807:=by
 obtain⟨h1,gs,h2,h3⟩:=h;have hi:i<len:=by rw[←h1];exact(List.getElem?_eq_some_iff.1 hx).1
 obtain⟨b,off,y,cs,e1,e2,e3,_,e5,e6⟩:=TabR.at (h2 w (Agree.refl _ _)) hi;obtain⟨pa,pc,la,lc,g1,g2,g3,g4,g5,g6⟩:=h3 i y x e3 hx w (Agree.refl _ _);have e7:cs=[.slice pa x.size pc,.slice la x.loose.length lc,.int .i64 x.left,.bool x.down]:=e5.trans g1;have hW:∀W,Agree K w W→Txs W pa x.size pc (pagesL x)∧Ls W la x.loose.length lc x.loose:=by
  intro W hW;obtain⟨pa',pc',la',lc',k1,k2,k3,_⟩:=h3 i y x e3 hx W hW;have:=g1.symm.trans k1;simp only[List.cons.injEq,Value.slice.injEq] at this;obtain⟨⟨rfl,_,rfl⟩,⟨rfl,_,rfl⟩,_⟩:=this;exact⟨k2,k3⟩
 subst e7;exact⟨b,off,pa,pc,la,lc,e1,e2,by simpa using e6 0 _ rfl,e6 1 _ rfl,e6 2 _ rfl,e6 3 _ rfl,fun W h=>(hW W h).1,fun W h=>(hW W h).2,g4,g5,g6⟩
def refE (d:List Rg) (r p:Int) (asked:Bool):Int:=if asked then pagedE d r p else upE d r
theorem rup_any {w:World} {a:Option Addr} {len cap:Nat} {d:List Rg} (h:Gs w a len cap d) (hlen:len≤9223372036854775807) (r p:Int) (asked:Bool) :
 Calls Tryz.prog 47 #[.slice a len cap,.int .i64 r,.int .i64 p,.bool asked] w fun e w'=>e=.returned (.int .i64 (refE d r p asked))∧w=w':=by
 have hl:=h.1
 by_cases h0:r<0
 ·have q0:decide (r<0)=true:=by simpa using h0
  have HE:Hid (refE d r p asked=2):=Hd (by
   have hu:upE d r=2:=by unfold upE;rw[if_neg (by omega)]
   unfold refE pagedE;rw[hu];simp)
  clear h0 h hl;exact qf42a29
 ·obtain⟨i,rfl⟩:=Int.eq_ofNat_of_zero_le (show 0≤r by omega)
  have q0:decide ((i:Int)<0)=false:=by simp
  by_cases h1:i<len
  ·obtain⟨x,hx⟩:∃x,d[i]? = some x:=⟨_,List.getElem?_eq_getElem (by omega)⟩
   obtain⟨b,off,pa,pc,la,lc,rfl,hb,c0,c1,c2,c3,g2,g3,g4,g5,g6⟩:=h.at hx;have q1:decide (len≤i)=false:=by simp;omega
   have hu:upE d (i:Int)=if x.down then 3 else 0:=by
    unfold upE;rw[if_pos (by omega),Int.toNat_natCast,hx];rfl
   have hp:pagedE d (i:Int) p=if x.down then 3 else if 0≤p∧p<x.size then 0 else 2:=by
    unfold pagedE;rw[hu,atR_of hx];cases x.down<;>simp
   cases hd:x.down with
   | true=>
    rw[hd] at c3;have HE:Hid (refE d (i:Int) p asked=3):=Hd (by unfold refE;rw[hu,hp,hd];simp);exact qdf2305
   | false=>
    rw[hd] at c3;cases asked with
    | false=>
     have HE:Hid (refE d (i:Int) p false=0):=Hd (by unfold refE;rw[hu,hd];simp);exact qdf2305
    | true=>
     by_cases p0:p<0
     ·have q2:decide (p<0)=true:=by simpa using p0
      have HE:Hid (refE d (i:Int) p true=2):=Hd (by unfold refE;rw[hp,hd];simp;omega);exact qdf2305
     ·have q2:decide (p<0)=false:=by simpa using p0
      by_cases p1:p<x.size
      ·have q3:decide ((x.size:Int)≤p)=false:=by simpa using p1
       have HE:Hid (refE d (i:Int) p true=0):=Hd (by unfold refE;rw[hp,hd];simp;omega);exact qdf2305
      ·have q3:decide ((x.size:Int)≤p)=true:=by simp;omega
       have HE:Hid (refE d (i:Int) p true=2):=Hd (by unfold refE;rw[hp,hd];simp;omega);exact qdf2305
  ·have q1:decide (len≤i)=true:=by simp;omega
   have HE:Hid (refE d (i:Int) p asked=2):=Hd (by
    have hu:upE d (i:Int)=2:=by unfold upE;rw[if_neg (by omega)]
    unfold refE pagedE;rw[hu];simp)
   clear h0 h hl;exact qf42a29
open Go.RowKit
structure RLd (w:World) (sb:Nat) (a:Option Addr) (len cap:Nat) (d:List Rg) (r:Int) (v:Value) (seen:List Int) (E:Int):Prop where
 box:Boxes w [(sb,[.slice a len cap,.int .i64 r,v,.int .i64 E])]
 own:w.ownsRow (sb+1) 3 1 v seen.length (seen.map (Value.int .i64))
 gs:∃K,GsK K w a len cap d∧∀k,K k→k<sb
 l9:len≤1000
section
variable {w w':World} {sb:Nat} {a:Option Addr} {len cap:Nat} {d:List Rg} {r:Int} {v v':Value} {seen s2:List Int} {E E2:Int}
def RS (sb:Nat) (v:Value):List Nat:=sb::v.ownBlock.toList
theorem RS.mem {k:Nat}:k∈RS sb v↔k=sb∨v.ownBlock=some k:=by
 unfold RS;cases h:v.ownBlock with
 | none=>simp
 | some g=>simp[eq_comm]
theorem RLd.lt (h:RLd w sb a len cap d r v seen E):sb<w.heap.size:=h.box.lt 0 rfl
theorem RLd.ge (h:RLd w sb a len cap d r v seen E) {k:Nat} (hk:v.ownBlock=some k):sb+1≤k∧k<w.heap.size:=World.ownsRow.lt h.own k hk
theorem RLd.regs (h:RLd w sb a len cap d r v seen E):Gs w a len cap d:=by
 obtain⟨K,h1,_⟩:=h.gs;exact h1.gs
theorem RLd.below (h:RLd w sb a len cap d r v seen E) (hb:Below w.heap.size w w'):RLd w' sb a len cap d r v seen E:=by
 obtain⟨K,h1,h2⟩:=h.gs;exact⟨h.box.step hb,own_held h.own hb,⟨K,h1.below hb,h2⟩,h.l9⟩
theorem RLd.only {S:List Nat} (h:RLd w sb a len cap d r v seen E) (ho:Only S w w') (hS:∀k∈S,sb<k∧v.ownBlock≠some k):RLd w' sb a len cap d r v seen E:=by
 obtain⟨K,h1,h2⟩:=h.gs;refine⟨h.box.only ho (by intro q hq;simp at hq;subst hq;intro hk;have:=(hS _ hk).1;simp at this),own_only h.own ho (fun k hk hk2=>(hS k hk2).2 hk),⟨K,h1.agree ⟨ho.size,fun k o hk hk2=>?_⟩,h2⟩,h.l9⟩;have hlt:k<w.heap.size:=(Array.getElem?_eq_some_iff.1 hk2).1;rw[ho.block hlt (fun hk3=>by have:=(hS _ hk3).1;have:=h2 k hk;omega)];exact hk2
theorem RLd.err (h:RLd w sb a len cap d r v seen E) (E2:Int):RLd (w.setCell ⟨sb,3,none⟩ (.int .i64 E2)) sb a len cap d r v seen E2:=by
 obtain⟨K,h1,h2⟩:=h.gs;have hb:Below sb w (w.setCell ⟨sb,3,none⟩ (.int .i64 E2)):=(Below.refl _ _).setCell (Nat.le_refl sb) _;exact⟨h.box.put 3 _ (by intro q hq;simp at hq),own_set h.own ⟨sb,3,none⟩ _ (fun e=>by have:=(h.ge e).1;simp at this;omega),⟨K,h1.agree ⟨hb.size,fun k o hk hk2=>(hb.block k (h2 k hk)).trans hk2⟩,h2⟩,h.l9⟩
end
def RSeePost (w:World) (sb:Nat) (a:Option Addr) (len cap:Nat) (d:List Rg) (r:Int) (v:Value) (seen:List Int) (E p:Int) (e:Ending) (w':World):Prop:=
 e=.returned (.tuple #[])∧∃v',RLd w' sb a len cap d r v' (seen++[p]) (if E=0∧p∈seen then 11 else E)∧Only (RS sb v) w w'∧Turn w v v'
theorem rsee_any {w:World} {sb:Nat} {a:Option Addr} {len cap:Nat} {d:List Rg} {r:Int} {v:Value} {seen:List Int} {E:Int} (h:RLd w sb a len cap d r v seen E) (hl:seen.length≤100000) (p:Int) :
 Calls Tryz.prog 99 #[.pointer (some ⟨sb,0,none⟩),.int .i64 p] w (RSeePost w sb a len cap d r v seen E p):=by
 obtain⟨av,cv,rfl,hcv,hcm,_⟩:=own_slice h.own;unfold maxLen at hcm;obtain⟨a',c',e',hrow⟩:=Row.of_own h.own;cases e';have hsl:=h.lt;have hne:∀x,av=some x→x.block≠sb:=fun x ex=>by have:=(h.ge (k:=x.block) (by rw[ex];rfl)).1;omega
 have HROW:=Hd hrow;have HH:=Hd h;have HS:=Hd (show RLd w sb a len cap d r (.slice av seen.length cv) seen (if E=0∧p∈seen.take 0 then 11 else E)∧Only [sb] w w from⟨by simpa using h,Only.refl _ _⟩);clear h hrow;go_enter Tryz.func99,Tryz.ntmps99;go_wp2_with fail
 go_loopw [4] (fun s4 wr=>∃i:Nat,i≤seen.length∧s4=.int .i64 i∧RLd wr sb a len cap d r (.slice av seen.length cv) seen (if E=0∧p∈seen.take i then 11 else E)∧Only [sb] w wr) (fun s _=>seen.length-(intOf s).toNat)
 case atStart=>exact⟨0,Nat.zero_le _,rfl,HS.out⟩
 case round=>
  clear HS;obtain⟨i,hi,rfl,h1,ho⟩:=hrel;have b2:=h1.box.cell 0 2 rfl rfl;have b3:=h1.box.cell 0 3 rfl rfl;have f3:=h1.box.frozen 0 3 rfl;have f2:=h1.box.frozen 0 2 rfl;have hswr:=ho.size;have iw2:IntKind.i64.wrap ((i:Int)+1)=(i:Int)+1:=by simp[IntKind.wrap,IntKind.signed,IntKind.bits];omega
  by_cases hlt:i<seen.length
  ·obtain⟨b,off,rfl,hbl,hc⟩:=(row_only HROW.out ho (fun x ex=>hne x ex)).2.2.2.2.resolve_left (by omega)
   have k0:=hc i hlt;obtain⟨q,hq⟩:∃q,seen[i]? = some q:=⟨seen[i]'hlt,by simp⟩
   rw[hq] at k0;have k0:wr.cell? ⟨b,off+i,none⟩=some (.int .i64 q):=k0;have htk:seen.take (i+1)=seen.take i++[q]:=List.take_succ_eq_append_of hq;have q1:decide ((i:Int)<(seen.length:Int))=true:=decide_eq_true (by omega);have q2:decide (i<seen.length)=true:=decide_eq_true hlt
   by_cases hpq:q=p
   ·subst hpq
    by_cases hE:E=0∧q∉seen.take i
    ·obtain⟨hE0,hni⟩:=hE
     rw[if_neg (fun h=>hni h.2)] at h1 b3;subst hE0;have hnew:RLd (wr.setCell ⟨sb,3,none⟩ (.int .i64 11)) sb a len cap d r (.slice (some ⟨b,off,none⟩) seen.length cv) seen (if (0:Int)=0∧q∈seen.take (i+1) then 11 else 0):=by
      rw[htk,if_pos ⟨rfl,by simp⟩];exact h1.err 11
     have HN:=Hd hnew;have hon:Only [sb] w (wr.setCell ⟨sb,3,none⟩ (.int .i64 11)):=ho.set _ _ (by simp);have HO:=Hd hon;clear h1 ho hc hq htk hnew hon hni;go_wp2_with fail;go_roundw
     case rel=>exact⟨i+1,hlt,by go_num,by simpa using HN.out,HO.out⟩
     case measure=>simp[intOf];omega
    ·have hold:(if E=0∧q∈seen.take i then 11 else E:Int)≠0:=by
      split
      ·omega
      ·rename_i h2
       intro e;exact hE ⟨e,fun h3=>h2 ⟨e,h3⟩⟩
     have hsame:(if E=0∧q∈seen.take (i+1) then 11 else E:Int)=if E=0∧q∈seen.take i then 11 else E:=by
      rw[htk]
      by_cases h0:E=0
      ·rw[if_pos ⟨h0,by simp⟩,if_pos ⟨h0,Classical.not_not.1 (fun h3=>hE ⟨h0,h3⟩)⟩]
      ·rw[if_neg (fun h=>h0 h.1),if_neg (fun h=>h0 h.1)]
     have HN:=Hd h1;have HO:=Hd ho;have HSAME:=Hd hsame;generalize (if E=0∧q∈seen.take i then 11 else E:Int)=E1 at *;have q3:(E1 == 0)=false:=by simpa using hold
     clear h1 ho hc hq htk hsame hE;go_wp2_with fail;go_roundw
     case rel=>exact⟨i+1,hlt,by go_num,by rw[HSAME.out];exact HN.out,HO.out⟩
     case measure=>simp[intOf];omega
   ·have hsame:(if E=0∧p∈seen.take (i+1) then 11 else E:Int)=if E=0∧p∈seen.take i then 11 else E:=by
     rw[htk];have:p∈seen.take i++[q]↔p∈seen.take i:=by simp[Ne.symm hpq]
     simp only[this]
    have q3:(q == p)=false:=by simpa using hpq
    have HN:=Hd h1;have HO:=Hd ho;have HSAME:=Hd hsame;generalize (if E=0∧p∈seen.take i then 11 else E:Int)=E1 at *;clear h1 ho hc hq htk hsame;go_wp2_with fail;go_roundw
    case rel=>exact⟨i+1,hlt,by go_num,by rw[HSAME.out];exact HN.out,HO.out⟩
    case measure=>simp[intOf];omega
  ·have hin:i=seen.length:=by omega
   subst hin;rw[List.take_length] at h1 b3;generalize hE1:(if E=0∧p∈seen then 11 else E:Int)=E1 at *;have q1:decide ((seen.length:Int)<(seen.length:Int))=false:=decide_eq_false (by omega);have q2:decide (seen.length<seen.length)=false:=decide_eq_false hlt;obtain⟨i0,hi0,hz0,hz1,hz2⟩:=info_parts info_i64C;obtain⟨v',w1,hr1,ho1,hg1,hv1⟩:=run_append_new (P:=Tryz.prog) (w:=wr) (sb+1) 35 3 i0 _ 1 8 Tryz.underlying35 hi0 hz0 hz1 hz2 rfl (by decide) h1.own #[.int .i64 p] rfl (by intro u hu;simp at hu;subst hu;rfl) (by unfold maxLen;omega) (by omega) (by omega);have hgb:∀k,(Value.slice av seen.length cv).ownBlock=some k→sb+1≤k∧k<wr.heap.size:=fun k hk=>h1.ge hk
   have hx1:Boxes w1 [(sb,[.slice a len cap,.int .i64 r,.slice av seen.length cv,.int .i64 E1])]:=h1.box.grown hg1 (by intro q hq e;simp at hq;subst hq;have:=(hgb _ e).1;have h2:sb+1≤sb:=this;omega);have k2:=hx1.cell 0 2 rfl rfl;have u2:=hx1.frozen 0 2 rfl;obtain⟨a1,c1,rfl,_⟩:=own_slice ho1;have hn':(Value.slice a1 (seen.length+1) c1).ownBlock≠some sb:=fun e=>by have:=own_ge ho1 _ e;omega
   have hb1:Below sb wr w1:=(Below.refl _ _).grown hg1 (by omega) (fun k hk=>by have:=(hgb k hk).1;omega);have hb2:Below sb wr (w1.setCell ⟨sb,2,none⟩ (.slice a1 (seen.length+1) c1)):=hb1.setCell (Nat.le_refl sb) _;have HE:Hid (RSeePost w sb a len cap d r (.slice av seen.length cv) seen E p (.returned (.tuple #[])) (w1.setCell ⟨sb,2,none⟩ (.slice a1 (seen.length+1) c1))):=Hd (by
    refine⟨rfl,.slice a1 (seen.length+1) c1,?_,?_,?_⟩
    ·rw[hE1]
     obtain⟨K,g1,g2⟩:=h1.gs;refine⟨hx1.put 2 _ (by intro q hq;simp at hq),?_,⟨K,g1.agree ⟨hb2.size,fun k o hk hk2=>(hb2.block k (g2 k hk)).trans hk2⟩,g2⟩,h1.l9⟩;rw[List.length_append,List.map_append];exact own_set ho1 ⟨sb,2,none⟩ _ hn'
    ·have hoA:Only (RS sb (.slice av seen.length cv)) w wr:=ho.mono (fun k hk=>by simp at hk;exact RS.mem.2 (.inl hk))
     have hoB:Only (RS sb (.slice av seen.length cv)) wr w1:=Only.of_grown hg1 (fun k hk=>.inl (RS.mem.2 (.inr hk)));exact(hoA.trans hoB).set _ _ (RS.mem.2 (.inl rfl))
    ·rcases hv1 with h|h
     ·exact .inl h
     ·exact .inr fun g e=>by rw[h] at e;have:=Option.some.inj e;omega)
   clear h1 ho hx1 hn' hb1 hb2 ho1 hg1 hv1 hi0 hz0 hz1 hz2 hgb hE1
   go_wp2_with (at_builtin;refine wpList_append_run rfl _ _ _ _ rfl rfl rfl hr1 ?_)
   go_end0
   exact HE.out
open Go.RowKit
def CountsPost (w:World) (pa:Option Addr) (pc:Nat) (la:Option Addr) (lc:Nat) (x:Rg) (e:Ending) (w':World):Prop:=
 e=.returned (.tuple #[.agg #[.slice pa x.size pc,.slice la x.loose.length lc,.int .i64 (cntR x).left,.bool (cntR x).down],.int .i64 (cntE x)])∧Below w.heap.size w w'
theorem counts_rg {w:World} (pa:Option Addr) (pc:Nat) (la:Option Addr) (lc:Nat) (x:Rg) (hl : -1≤x.left) (hr:x.left≤9223372036854775807) :
 Calls Tryz.prog 48 #[.agg #[.slice pa x.size pc,.slice la x.loose.length lc,.int .i64 x.left,.bool x.down]] w (CountsPost w pa pc la lc x):=by
 have hb1:∀c0 c1 c2 c3:Value,Below w.heap.size w (w.alloc (.cells #[c0,c1,c2,c3] 117)):=fun _ _ _ _=>(Below.refl _ _).alloc (Nat.le_refl _) _
 by_cases h0:x.left=0
 ·have q0:(x.left == 0)=true:=by simpa using h0
  have HE:=Hd (show cntE x=3 by rw[cntE,if_pos h0]);have HR:=Hd (show cntR x={ x with down:=true } by rw[cntR,if_pos h0]);clear h0;go_enter Tryz.func48,Tryz.ntmps48;go_wp2_with fail;exact bodyPost_ret (v:=.tuple #[.agg #[.slice pa x.size pc,.slice la x.loose.length lc,.int .i64 x.left,.bool true],.int .i64 3]) (by simp[results,Tryz.results48,go_sem]) rfl ⟨by rw[HE.out,HR.out],((Below.refl _ _).alloc (Nat.le_refl _) _).alloc (by simp) _⟩
 ·have q0:(x.left == 0)=false:=by simpa using h0
  have HE:=Hd (show cntE x=0 by rw[cntE,if_neg h0])
  by_cases h1:0<x.left
  ·have q1:decide (0<x.left)=true:=by simpa using h1
   have HR:=Hd (show cntR x={ x with left:=x.left-1 } by rw[cntR,if_neg h0,if_pos h1]);clear h0;go_enter Tryz.func48,Tryz.ntmps48;go_wp2_with fail;exact bodyPost_ret (v:=.tuple #[.agg #[.slice pa x.size pc,.slice la x.loose.length lc,.int .i64 (x.left-1),.bool x.down],.int .i64 0]) (by simp[results,Tryz.results48,go_sem]) rfl ⟨by rw[HE.out,HR.out],((Below.refl _ _).alloc (Nat.le_refl _) _).alloc (by simp) _⟩
  ·have q1:decide (0<x.left)=false:=by simpa using h1
   have HR:=Hd (show cntR x=x by rw[cntR,if_neg h0,if_neg h1]);clear h0;go_enter Tryz.func48,Tryz.ntmps48;go_wp2_with fail;exact bodyPost_ret (v:=.tuple #[.agg #[.slice pa x.size pc,.slice la x.loose.length lc,.int .i64 x.left,.bool x.down],.int .i64 0]) (by simp[results,Tryz.results48,go_sem]) rfl ⟨by rw[HE.out,HR.out],((Below.refl _ _).alloc (Nat.le_refl _) _).alloc (by simp) _⟩
open Go.RowKit
theorem info_G:(Tryz.prog.info? 117).map (fun i=>(i.zero,i.size,i.bytes))=some (some (.agg #[.slice none 0 0,.slice none 0 0,.int .i64 0,.bool false]),4,64):=by kernel_rfl
theorem tab_set {w:World} {base:Nat} {e:TypeId} {g n cap:Nat} {l:List C4} (h:w.ownsRow base e 4 (.slice (some ⟨g,0,none⟩) n cap) n (l.flatMap (·.1))) (hl:l.length=n) {i:Nat} (hi:i<n) (y:C4) :
 (∃z:C4,∀j v,z.1[j]? = some v→w.cell? ⟨g,i*4+j,none⟩=some v)∧w.grownBy (w.setCells g (i*4) y.1) (some g)∧TabR 4 (fun cs (y:C4)=>cs=y.1) (w.setCells g (i*4) y.1) (some ⟨g,0,none⟩) n cap (l.set i y):=by
 have hf:∀z:C4,z.1.length=4:=fun z=>z.2.1
 obtain⟨a',cap',e1,ht⟩:=TabR.of_own (fun z:C4=>z.1) hf (R:=fun cs (z:C4)=>cs=z.1) (fun _=>rfl) (by rw[hl];exact h);rw[hl] at e1 ht;cases e1;have hfro:∀j,w.frozen? ⟨g,j,none⟩=false:=fun j=>h.frozenAt j
 obtain⟨h1,h2,h3,hn,h4⟩:=ht;obtain⟨b,off,e2,hb,hcells⟩:=h4.resolve_left (by omega);cases e2;have cell:∀(k:Nat) (z:C4),l[k]? = some z→∀j v,z.1[j]? = some v→w.cell? ⟨g,k*4+j,none⟩=some v:=by
  intro k z hz j v hv;obtain⟨cs,_,c2,c3⟩:=hcells k z hz;have:=c3 j v (by rw[c2];exact hv);simpa using this
 obtain⟨z,hz⟩:∃z,l[i]? = some z:=⟨_,List.getElem?_eq_getElem (by omega)⟩
 have hsome:∀j,j<y.1.length→(w.cell? ⟨g,i*4+0+j,none⟩).isSome=true:=by
  intro j hj;have hj':j<z.1.length:=by rw[hf];rw[hf] at hj;exact hj
  rw[Nat.add_zero,cell i z hz j _ (List.getElem?_eq_getElem hj')];rfl
 have hbel:w.grownBy (w.setCells g (i*4) y.1) (some g):=by
  have:∀(vs:List Value) (o:Nat) (w0:World),w0.grownBy (w0.setCells g o vs) (some g):=by
   intro vs
   induction vs with
   | nil=>intro o w0;exact grown_refl _ _
   | cons v vs ih=>intro o w0;exact grown_trans (grown_setCell w0 ⟨g,o,none⟩ v) (ih (o+1) _)
  exact this _ _ _
 refine⟨⟨z,cell i z hz⟩,hbel,by simpa using h1,h2,h3,(fun e=>by cases e),.inr ⟨g,0,rfl,Nat.lt_of_lt_of_le hb hbel.size,fun k u hu=>?_⟩⟩;have hk:k<n:=by have:=(List.getElem?_eq_some_iff.1 hu).1;simp at this;omega
 refine⟨u.1,hf u,rfl,fun j v hv=>?_⟩;have hj:j<4:=by rw[←hf u];exact(List.getElem?_eq_some_iff.1 hv).1
 rw[Nat.zero_add]
 by_cases e:k=i
 ·subst e
  rw[List.getElem?_set_self (by omega)] at hu;cases hu;have:=World.rangeAt_setCells_same w g (k*4) y.1 (fun j hj=>⟨by have:=hsome j hj;simpa using this,hfro _⟩);exact this j v hv
 ·rw[List.getElem?_set_ne (fun h=>e h.symm)] at hu
  rw[World.cell?_setCells_out g y.1 (i*4) w ⟨g,k*4+j,none⟩ (fun _ _=>by
   have:=hf y;show k*4+j<i*4∨i*4+y.1.length≤k*4+j;omega)]
  exact cell k u hu j v hv
def GsPost (K:Nat→Prop) (w:World) (d:List Rg) (e:Ending) (w':World):Prop:=∃a n cap,e=.returned (.slice a n cap)∧GsK (From K w.heap.size) w' a n cap d∧Below w.heap.size w w'
theorem withG_any {K:Nat→Prop} {w:World} {a:Option Addr} {len cap:Nat} {d:List Rg} (h:GsK K w a len cap d) (hlen:len≤1000) (i:Nat) (hi:i<len) (g:C4) (x:Rg) (hx:∀W,Agree K w W→IsG W g.1 x) :
 Calls Tryz.prog 49 #[.slice a len cap,.int .i64 (i:Int),.agg g.1.toArray] w (GsPost K w (d.set i x)):=by
 obtain⟨hdl,gs,htK,hg⟩:=h;have ht:=htK w (Agree.refl _ _);have hb0:Below w.heap.size w (w.alloc (.cells g.1.toArray 117)):=(Below.refl _ _).alloc (Nat.le_refl _) _;obtain⟨i0,hi0,hz0,hz1,hz2⟩:=info_parts info_G;have ht0:=TabR.below (Nat.le_refl _) hb0 ht;obtain⟨v',w2,hr9,ho9,hg9,_⟩:=run_append_tab (P:=Tryz.prog) (w:=w.alloc (.cells g.1.toArray 117)) w.heap.size 36 117 i0 _ 4 64 Tryz.underlying36 hi0 hz0 hz1 hz2 rfl (by decide) (World.ownsRow_nil _ _ _ _) (fun cs (y:C4)=>cs=y.1) (fun y:C4=>y.1) (fun _ _ h=>h) (fun y=>y.2.1) (fun y=>y.2.2) ht0 (by unfold maxLen;omega) (by omega) (by simp);simp only[Nat.zero_add,List.nil_append] at ho9;obtain⟨a',c',rfl,hc1,hc2,hc3⟩:=own_slice ho9;obtain⟨gb,rfl⟩:=hc3 (by omega);have hgs:gs.length=len:=ht.1;obtain⟨⟨z,hz⟩,hg3,ht3⟩:=tab_set ho9 hgs hi g;have hfro:=fun j=>ho9.frozenAt j
 obtain⟨w3,hw3⟩:∃w3,w3=w2.setCells gb (i*4) g.1:=⟨_,rfl⟩
 rw[←hw3] at hg3 ht3;have hge:=own_ge ho9 gb rfl;have hb2:Below w.heap.size w w2:=hb0.grown hg9 (by simp) (fun k hk=>by cases hk);have hb3:Below w.heap.size w w3:=hb2.grown hg3 hb2.size (fun k hk=>by cases hk;exact hge);have hbx:w2.rangeAt w.heap.size 0 g.1:=fun j v hv=>by
  rw[World.cell?_of_block (hg9.block w.heap.size (by simp) (fun e=>by cases e))];simp only[World.cell?,World.alloc_heap_new w (.cells g.1.toArray 117)];simpa using hv
 have END:GsPost K w (d.set i x) (.returned (.slice (some ⟨gb,0,none⟩) len c')) w3:=by
  refine⟨_,len,c',rfl,?_,hb3⟩;refine⟨by simp[hdl],_,ht3.agreeK (fun b off e=>by cases e;exact .inr hge),fun j u y hu hy W hW=>?_⟩
  by_cases e:j=i
  ·subst e
   rw[List.getElem?_set_self (by omega)] at hu hy;cases hu;cases hy;exact hx W (Agree.step hb3 hW)
  ·rw[List.getElem?_set_ne (fun h=>e h.symm)] at hu hy
   exact hg j u y hu hy W (Agree.step hb3 hW)
 have END:=Hd END;have q1:decide ((i:Int)<len)=true:=by simp;omega
 have q2:decide (i<len)=true:=by simpa using hi
 unfold maxLen at hc2;clear ht ht0 htK hg hgs ho9 hg9 hg3 ht3 hb0 hb2 hb3 hge hx hdl hi0 hz0 hz1 hz2 hc3;obtain⟨gl,gl1,gl2⟩:=g;obtain⟨zl,zl1,zl2⟩:=z
 match gl,gl1,zl,zl1 with
 | [g0,g1,g2,g3],_,[z0,z1,z2,z3],_=>
  have r0:∀a m W,(store a g0 m).run Tryz.prog W=stored Tryz.prog W a g0 m:=fun a m W=>run_store Tryz.prog W a g0 m (gl2 g0 (by simp))
  have r1:∀a m W,(store a g1 m).run Tryz.prog W=stored Tryz.prog W a g1 m:=fun a m W=>run_store Tryz.prog W a g1 m (gl2 g1 (by simp))
  have r2:∀a m W,(store a g2 m).run Tryz.prog W=stored Tryz.prog W a g2 m:=fun a m W=>run_store Tryz.prog W a g2 m (gl2 g2 (by simp))
  have r3:∀a m W,(store a g3 m).run Tryz.prog W=stored Tryz.prog W a g3 m:=fun a m W=>run_store Tryz.prog W a g3 m (gl2 g3 (by simp))
  have b0:=hbx 0 g0 rfl;have b1:=hbx 1 g1 rfl;have b2:=hbx 2 g2 rfl;have b3:=hbx 3 g3 rfl;have d0:=hz 0 z0 rfl;have d1:=hz 1 z1 rfl;have d2:=hz 2 z2 rfl;have d3:=hz 3 z3 rfl;have f0:=hfro (i*4);have f1:=hfro (i*4+1);have f2:=hfro (i*4+2);have f3:=hfro (i*4+3);simp only[Nat.zero_add,Nat.add_zero] at b0 b1 b2 b3 d0 d1 d2 d3;have HW3:Hid (w3=(((w2.setCell ⟨gb,i*4,none⟩ g0).setCell ⟨gb,i*4+1,none⟩ g1).setCell ⟨gb,i*4+2,none⟩ g2).setCell ⟨gb,i*4+3,none⟩ g3):=Hd hw3;clear hbx hz hfro hw3;go_enter Tryz.func49,Tryz.ntmps49
  go_wp2_with (at_builtin;refine wpList_append_run rfl _ _ _ _ rfl rfl rfl hr9 ?_)
  go_ret;rw[←HW3.out];exact END.out
open Go.RowKit
theorem from_up {K:Nat→Prop} {w w1:World} (hb:Below w.heap.size w w1):∀k,From K w1.heap.size k→From K w.heap.size k:=fun _ hk=>hk.imp id (fun h=>Nat.le_trans hb.size h)
theorem from_up2 {K:Nat→Prop} {w w1:World} (hb:Below w.heap.size w w1):∀k,From (From K w.heap.size) w1.heap.size k→From K w.heap.size k:=fun _ hk=>hk.elim id (fun h=>.inr (Nat.le_trans hb.size h))
def gcells (pa:Option Addr) (pc:Nat) (la:Option Addr) (lc:Nat) (x:Rg):C4:=⟨[.slice pa x.size pc,.slice la x.loose.length lc,.int .i64 x.left,.bool x.down],rfl,by
 intro v hv;simp only[List.mem_cons,List.not_mem_nil,or_false] at hv
 rcases hv with rfl|rfl|rfl|rfl<;>rfl⟩
theorem with_rg {K:Nat→Prop} {w:World} {a:Option Addr} {len cap:Nat} {d:List Rg} (h:GsK K w a len cap d) (hlen:len≤1000) (i:Nat) (hi:i<len) (x:Rg) {pa:Option Addr} {pc:Nat} {la:Option Addr} {lc:Nat} (hp:∀W,Agree K w W→Txs W pa x.size pc (pagesL x)) (hl:∀W,Agree K w W→Ls W la x.loose.length lc x.loose) (hs:x.size≤1000) (hs2:∀p∈x.loose,p.1<x.size) (h1 : -1≤x.left) (h2:x.left≤9223372036854775807) :
 Calls Tryz.prog 49 #[.slice a len cap,.int .i64 (i:Int),.agg #[.slice pa x.size pc,.slice la x.loose.length lc,.int .i64 x.left,.bool x.down]] w (GsPost K w (d.set i x)):=
 withG_any h hlen i hi (gcells pa pc la lc x) x (fun W hW=>⟨pa,pc,la,lc,rfl,hp W hW,hl W hW,hs,hs2,h1,h2⟩)
open Go.RowKit
theorem Ls.at {w:World} {a:Option Addr} {len cap:Nat} {l:List (Nat×P128)} (h:Ls w a len cap l) {k:Nat} (hk:k<len) :
 ∃b off y,a=some ⟨b,off,none⟩∧b<w.heap.size∧l[k]? = some y∧w.cell? ⟨b,off+k*2,none⟩=some (.int .i64 (y.1:Int))∧w.cell? ⟨b,off+k*2+1,none⟩=some (.string (strOf y.2.1)):=by
 obtain⟨b,off,y,cs,e1,e2,e3,_,e5,e6⟩:=TabR.at h hk;have e7:cs=lcells y:=e5;subst e7;exact⟨b,off,y,e1,e2,e3,by simpa using e6 0 _ rfl,e6 1 _ rfl⟩
def RReadPost (w:World) (l:List UInt8) (er:Int) (e:Ending) (w':World):Prop:=e=.returned (.tuple #[.string (strOf l),.int .i64 er])∧Below w.heap.size w w'
theorem rread_any {w:World} {a:Option Addr} {len cap:Nat} {d:List Rg} (h:Gs w a len cap d) (hlen:len≤1000) (r p:Int) :
 Calls Tryz.prog 100 #[.slice a len cap,.int .i64 r,.int .i64 p] w (RReadPost w (readB d r p) (pagedE d r p)):=by
 have U:=rup_any h (by omega) r p true;have hre:refE d r p true=pagedE d r p:=rfl;rw[hre] at U
 by_cases hu:pagedE d r p=0
 ·obtain⟨i,pn,x,rfl,rfl,hx,hdn,hpn⟩:=pagedE_zero hu
  have hi:i<len:=by have:=(List.getElem?_eq_some_iff.1 hx).1;have:=h.1;omega
  obtain⟨b,off,pa,pc,la,lc,rfl,hb,c0,c1,c2,c3,g2,g3,g4,g5,g6,g7⟩:=h.at hx;have e1:readB d i pn=(seen x pn).1:=by rw[readB,if_pos hu,atR_of hx,Int.toNat_natCast]
  rw[hu] at U;rw[hu,e1];have q1:decide ((i:Int)<len)=true:=by simp;omega
  have hbb:Below w.heap.size w (w.alloc (.cells #[.slice pa x.size pc,.slice la x.loose.length lc,.int .i64 x.left,.bool x.down] 117)):=(Below.refl _ _).alloc (Nat.le_refl _) _;have G3:=Hd (show Ls (w.alloc (.cells #[.slice pa x.size pc,.slice la x.loose.length lc,.int .i64 x.left,.bool x.down] 117)) la x.loose.length lc x.loose from TabR.below (Nat.le_refl _) hbb g3);have G2:=Hd (show Txs (w.alloc (.cells #[.slice pa x.size pc,.slice la x.loose.length lc,.int .i64 x.left,.bool x.down] 117)) pa x.size pc (pagesL x) from TabR.below (Nat.le_refl _) hbb g2);have hll:x.loose.length≤9223372036854775807:=by have:=g3.2.1;have:=g3.2.2.1;unfold maxLen at this;omega
  have HPN:=Hd hpn;have HBB:=Hd hbb;have HS:=Hd (show lastW pn (x.pages pn) (x.loose.take x.loose.length)=seen x pn by rw[List.take_length];rfl);clear h hx hu hdn e1 g2 g3 g5 hre hbb;go_enter Tryz.func100,Tryz.ntmps100;go_wp2_with fail;refine U.mono ?_;rintro e w9 ⟨rfl,rfl⟩;clear U;go_wp2_with fail
  go_loop [10] (fun v=>∃j:Nat,j≤x.loose.length∧v=.int .i64 ((j:Int)-1)∧lastW pn (x.pages pn) (x.loose.take j)=seen x pn) (fun v=>(intOf v+1).toNat)
  case atStart=>exact⟨x.loose.length,Nat.le_refl _,rfl,HS.out⟩
  case round=>
   obtain⟨j,hj,rfl,hlw⟩:=hrel;cases j with
   | zero=>
    obtain⟨b9,o9,s9,rfl,_,hs9,hc9⟩:=G2.out.at HPN.out;have hse:s9=(seen x pn).1:=by
     rw[←hlw];simp only[pagesL,List.getElem?_map] at hs9;rw[List.getElem?_range HPN.out] at hs9;simp at hs9;rw[←hs9];rfl
    have HSE:=Hd hse;have q2:decide ((0:Int)≤((0:Nat):Int)-1)=false:=by decide
    have q3:=Hd HPN.out;have q4:pn<x.size:=HPN.out;clear hlw hs9 hse;go_wp2_with fail
    go_ret2
    have END:RReadPost w (seen x pn).1 0 (.returned (.tuple #[.string (strOf s9),.int .i64 0])) _:=⟨by rw[HSE.out],HBB.out⟩
    exact END
   | succ m=>
    obtain⟨b9,o9,y,rfl,_,hy,d0,d1⟩:=G3.out.at (k:=m) (by omega);have hlt:=lastW_take pn (x.pages pn) x.loose m y hy;rw[hlw] at hlt;have em:(((m+1:Nat):Int)-1)=(m:Int):=by omega
    by_cases hyp:y.1=pn
    ·rw[if_pos hyp] at hlt
     have HLT:=Hd hlt;have q2:((y.1:Int) == (pn:Int))=true:=by simp[hyp]
     have q3:(y.1 == pn)=true:=by simp[hyp]
     rw[em];clear hlw hlt hyp hy em;go_wp2_with fail
     go_ret2
     have END:RReadPost w (seen x pn).1 0 (.returned (.tuple #[.string (strOf y.2.1),.int .i64 0])) _:=⟨by rw[HLT.out],HBB.out⟩
     exact END
    ·rw[if_neg hyp] at hlt
     have HLT:=Hd hlt;have q2:((y.1:Int) == (pn:Int))=false:=by simp;omega
     have q3:(y.1 == pn)=false:=by simp[hyp]
     rw[em];clear hlw hlt hyp hy em;go_wp2_with fail
     go_round
     case rel=>exact⟨m,by omega,rfl,HLT.out.symm⟩
     case measure=>simp[intOf]
 ·have e1:readB d r p=[]:=by rw[readB,if_neg hu]
  rw[e1];have q0:(pagedE d r p == 0)=false:=by simpa using hu
  generalize pagedE d r p=er at *;clear hu e1 h hre;go_enter Tryz.func100,Tryz.ntmps100;go_wp2_with fail;refine U.mono ?_;rintro e w0 ⟨rfl,rfl⟩;go_wp2_with fail
  go_ret2
  exact⟨rfl,Below.refl _ _⟩
open Go.RowKit
def Rt (w:World) (t:Nat) (s:TSt):Prop:=w.heap[t]? = some (.cells #[.string (strOf s.l),.int .i64 s.e] 157 (0,0))
theorem Rt.lt {w:World} {t:Nat} {s:TSt} (h:Rt w t s):t<w.heap.size:=(Array.getElem?_eq_some_iff.1 h).1
theorem Rt.grown {w w':World} {t:Nat} {s:TSt} {row:Option Nat} (h:Rt w t s) (hg:w.grownBy w' row) (hne:row≠some t):Rt w' t s:=(hg.block t h.lt (fun e=>hne e.symm)).trans h
theorem Rt.below {w w':World} {t:Nat} {s:TSt} {B:Nat} (hB:w.heap.size≤B) (hb:Below B w w') (h:Rt w t s):Rt w' t s:=(hb.block t (Nat.lt_of_lt_of_le h.lt hB)).trans h
theorem Rt.err {w:World} {t:Nat} {s:TSt} (h:Rt w t s):w.cell? ⟨t,1,none⟩=some (.int .i64 s.e):=by
 have h':w.heap[t]? = _:=h;simp[World.cell?,h']
def RtPost (w:World) (t:Nat) (v:Value) (s':TSt) (e:Ending) (w':World):Prop:=
 e=.returned v∧w.grownBy w' (some t)∧Rt w' t s'
theorem rSome_any (t:Nat) (s:TSt) (n:Nat) (w:World) (h:Rt w t s) (hreach:s.l.length≤140737488351232) :
 Calls Tryz.prog 110 #[.pointer (some ⟨t,0,none⟩),.int .i64 n] w (RtPost w t (.string (strOf (takeF s n).1)) (takeF s n).2):=by
 obtain⟨l,er⟩:=s;have hblk:w.heap[t]? = some (.cells #[.string (strOf l),.int .i64 er] 157 (0,0)):=h;have hc0:w.cell? ⟨t,0,none⟩=some (.string (strOf l)):=by simp[World.cell?,hblk]
 have hc1:w.cell? ⟨t,1,none⟩=some (.int .i64 er):=by simp[World.cell?,hblk]
 have hf0:w.frozen? ⟨t,0,none⟩=false:=by simp[World.frozen?,hblk]
 have hf1:w.frozen? ⟨t,1,none⟩=false:=by simp[World.frozen?,hblk]
 have hsz:=strOf_size l;dsimp only at hreach
 by_cases he:er=0
 ·subst he
  by_cases hlt:l.length<n
  ·have hts:takeF ⟨l,0⟩ n=([],⟨l,10⟩):=by simp[takeF,hlt]
   rw[hts];have hnew:Rt (w.setCell ⟨t,1,none⟩ (.int .i64 10)) t ⟨l,10⟩:=heap_setCell_at 1 (.int .i64 10) hblk;have hgr:=grown_setCell w ⟨t,1,none⟩ (.int .i64 10);clear hts hblk h;go_enter Tryz.func110,Tryz.ntmps110
   go_wp2
   go_ret;exact⟨rfl,hgr,hnew⟩
  ·have hts:takeF ⟨l,0⟩ n=(l.take n,⟨l.drop n,0⟩):=by simp[takeF,hlt]
   rw[hts];have hx0:(strOf l).extract 0 n=strOf (l.take n):=by rw[strOf_extract];simp
   have hx1:(strOf l).extract n l.length=strOf (l.drop n):=by rw[strOf_extract,List.take_of_length_le (by simp)]
   have hgr:=grown_setCell w ⟨t,0,none⟩ (.string (strOf (l.drop n)));have hnew:Rt (w.setCell ⟨t,0,none⟩ (.string (strOf (l.drop n)))) t ⟨l.drop n,0⟩:=heap_setCell_at 0 (.string (strOf (l.drop n))) hblk;clear hts hblk h;go_enter Tryz.func110,Tryz.ntmps110
   go_wp2
   go_ret;exact⟨rfl,hgr,hnew⟩
 ·have hts:takeF ⟨l,er⟩ n=([],⟨l,er⟩):=by simp[takeF,he]
  rw[hts];have hne:(er == 0)=false:=by simpa using he
  have hne':(er != 0)=true:=by simpa using he
  clear he hts hblk;go_enter Tryz.func110,Tryz.ntmps110
  go_wp2
  go_ret;exact⟨rfl,grown_below (Below.refl _ _) _,h⟩
theorem rNum_any (t:Nat) (s:TSt) (size:Int) (w:World) (h:Rt w t s) (hreach:s.l.length≤140737488351232) :
 Calls Tryz.prog 60 #[.pointer (some ⟨t,0,none⟩),.int .i64 size] w (RtPost w t (.int .u64 ((tNum s size).1:Int)) (tNum s size).2):=by
 obtain⟨l,er⟩:=s;have hblk:w.heap[t]? = some (.cells #[.string (strOf l),.int .i64 er] 157 (0,0)):=h;have hc1:w.cell? ⟨t,1,none⟩=some (.int .i64 er):=by simp[World.cell?,hblk]
 have hf1:w.frozen? ⟨t,1,none⟩=false:=by simp[World.frozen?,hblk]
 dsimp only at hreach
 by_cases he:er=0
 ·subst he
  by_cases hsz:size<1∨8<size
  ·have hr:tNum ⟨l,0⟩ size=(0,⟨l,1⟩):=by simp[tNum,hsz]
   rw[hr];have hnew:Rt (w.setCell ⟨t,1,none⟩ (.int .i64 1)) t ⟨l,1⟩:=heap_setCell_at 1 (.int .i64 1) hblk;have hgr:=grown_setCell w ⟨t,1,none⟩ (.int .i64 1);clear hr hblk h
   rcases hsz with hsz|hsz
   ·go_enter Tryz.func60,Tryz.ntmps60
    go_wp2
    go_ret;exact⟨rfl,hgr,hnew⟩
   ·have hsz':¬size<1:=by omega
    go_enter Tryz.func60,Tryz.ntmps60
    go_wp2
    go_ret;exact⟨rfl,hgr,hnew⟩
  ·obtain⟨n,rfl⟩:=Int.eq_ofNat_of_zero_le (show 0≤size by omega)
   have hr:tNum ⟨l,0⟩ (n:Int)=(beVal (takeF ⟨l,0⟩ n).1,(takeF ⟨l,0⟩ n).2):=by simp only[tNum];rw[if_neg (fun h=>hsz h.2)];rfl
   rw[hr];have hs1:¬(n:Int)<1:=by omega
   have hs2:¬(8:Int)<(n:Int):=by omega
   have hcall:=rSome_any t ⟨l,0⟩ n w h hreach;have hle:=takeF_le ⟨l,0⟩ n;obtain⟨b,s1,hs⟩:∃b s1,takeF ⟨l,0⟩ n=(b,s1):=⟨_,_,rfl⟩
   rw[hs] at hcall hle ⊢;dsimp only at hcall hle ⊢;clear hr hblk h hsz hs;have hbs:=strOf_size b;go_enter Tryz.func60,Tryz.ntmps60;go_wp2_with fail;refine hcall.mono ?_;rintro e w1 ⟨rfl,hgr,hnew⟩
   go_wp2
   go_loop [6,7] (fun x i=>∃k:Nat,k≤b.length∧i=.int .i64 k∧x=.int .u64 (beVal (b.take k))) (fun _ i=>b.length-(intOf i).toNat)
   case atStart=>exact⟨0,Nat.zero_le _,rfl,rfl⟩
   case round=>
    obtain⟨k,hk,rfl,rfl⟩:=hrel
    by_cases hlt:k<b.length
    ·have hst:=beVal_step b k hlt
     have hbd:beVal (b.take k)<72057594037927936:=by
      have h1:=beVal_lt (b.take k);have h2:(b.take k).length≤7:=by simp;omega
      have h3:256 ^ (b.take k).length≤256 ^ 7:=Nat.pow_le_pow_right (by decide) h2;omega
     have hcb:(b[k]?.getD 0).toNat<256:=(b[k]?.getD 0).toNat_lt;have hget:=strOf_get b k hlt;generalize b[k]?.getD 0=x at *;generalize beVal (b.take k)=y at *;have H:=Hd hst;clear hst;exact q931089
    ·obtain rfl:k=b.length:=by omega
     rw[List.take_length]
     go_wp2
     go_ret;exact⟨rfl,hgr,hnew⟩
 ·have hr:tNum ⟨l,er⟩ size=(0,⟨l,er⟩):=by simp[tNum,takeF,he,beVal_nil]
  rw[hr];have hne:(er == 0)=false:=by simpa using he
  have hne':(er != 0)=true:=by simpa using he
  clear he hr hblk;go_enter Tryz.func60,Tryz.ntmps60
  go_wp2
  go_ret;exact⟨rfl,grown_below (Below.refl _ _) _,h⟩
theorem rText_any (t:Nat) (s:TSt) (w:World) (h:Rt w t s) (hreach:s.l.length≤140737488351232) :
 Calls Tryz.prog 61 #[.pointer (some ⟨t,0,none⟩)] w (RtPost w t (.string (strOf (tText s).1)) (tText s).2):=by
 have hlt:=tNum_lt s 1;have hlen:=tNum_len s 1;have hcall:=rNum_any t s 1 w h hreach;obtain⟨n,s1,hs⟩:∃n s1,tNum s 1=(n,s1):=⟨_,_,rfl⟩
 have hr:tText s=takeF s1 n:=by simp[tText,hs]
 have hs':tNum s ((1:Nat):Int)=(n,s1):=hs;rw[hs] at hcall hlen;rw[hs'] at hlt;rw[hr];dsimp only at hlt hlen hcall;clear hr hs hs';go_enter Tryz.func61,Tryz.ntmps61;go_wp2_with fail;refine hcall.mono ?_;rintro e w1 ⟨rfl,hgr,hnew⟩;go_wp2_with fail;refine(rSome_any t s1 n w1 hnew (by omega)).mono ?_;rintro e w2 ⟨rfl,hgr2,hnew2⟩
 go_wp2
 go_ret;exact⟨rfl,grown_trans hgr hgr2,hnew2⟩
theorem rRest_any (t:Nat) (s:TSt) (w:World) (h:Rt w t s) (hreach:s.l.length≤140737488351232) :
 Calls Tryz.prog 182 #[.pointer (some ⟨t,0,none⟩)] w (RtPost w t (.string (strOf (tRest s).1)) (tRest s).2):=by
 have hcall:=rSome_any t s s.l.length w h hreach;have hblk:w.heap[t]? = some (.cells #[.string (strOf s.l),.int .i64 s.e] 157 (0,0)):=h;have hc0:w.cell? ⟨t,0,none⟩=some (.string (strOf s.l)):=by simp[World.cell?,hblk]
 have hsz:=strOf_size s.l;clear hblk;go_enter Tryz.func182,Tryz.ntmps182;go_wp2_with fail;refine hcall.mono ?_;rintro e w2 ⟨rfl,hgr2,hnew2⟩
 go_wp2
 go_ret;exact⟨rfl,hgr2,hnew2⟩
theorem rDone_any (t:Nat) (s:TSt) (w:World) (h:Rt w t s) :
 Calls Tryz.prog 62 #[.pointer (some ⟨t,0,none⟩)] w fun e w'=>e=.returned (.int .i64 (tDone s))∧w=w':=by
 obtain⟨l,er⟩:=s;have hblk:w.heap[t]? = some (.cells #[.string (strOf l),.int .i64 er] 157 (0,0)):=h;have hc0:w.cell? ⟨t,0,none⟩=some (.string (strOf l)):=by simp[World.cell?,hblk]
 have hc1:w.cell? ⟨t,1,none⟩=some (.int .i64 er):=by simp[World.cell?,hblk]
 clear hblk h
 by_cases he:er=0
 ·subst he
  by_cases h0:l=[]
  ·subst h0
   have hem:(!(strOf []).toList.isEmpty)=false:=by rw[strOf_toList];rfl
   go_enter Tryz.func62,Tryz.ntmps62;exact q72c811
  ·have HD:=Hd (show tDone ⟨l,0⟩=11 by simp[tDone,h0])
   have hem:(!(strOf l).toList.isEmpty)=true:=by rw[strOf_toList];simp[h0]
   clear h0;go_enter Tryz.func62,Tryz.ntmps62
   go_wp2
   go_ret;exact⟨ret_int HD.out.symm,rfl⟩
 ·have HD:=Hd (show tDone ⟨l,er⟩=er by simp[tDone,he])
  have hne:(er == 0)=false:=by simpa using he
  clear he;go_enter Tryz.func62,Tryz.ntmps62
  go_wp2
  go_ret;exact⟨ret_int HD.out.symm,rfl⟩
open Go.RowKit
theorem pageOf_five (kind:UInt8) (c:List (List UInt8)):(pageOf kind c)[5]? = some (UInt8.ofNat c.length):=by
 rw[pageOf,List.getElem?_append_right (by rw[beBytes_length];omega),beBytes_length];rfl
theorem unpB_big (l:List UInt8) (h:122<numS l):unpB l=false:=by
 rw[unpB,Nat.min_eq_right (by omega)];have:pageOf (kindS l) (cutS l 122)≠l:=by
  intro e;have h5:=pageOf_five (kindS l) (cutS l 122);rw[e,cutS_length] at h5;rw[numS,h5] at h;simp at h
 rw[beq_eq_false_iff_ne.2 this];simp
theorem unpB_slot (l:List UInt8) (k:Nat) (h:okSC l (k+1)=false) (hk:k<min (numS l) 122):unpB l=false:=by
 rw[unpB,okS_mono l h hk,Bool.false_and]
def RUnpPost (w:World) (k:UInt8) (l:List (List UInt8)) (er:Int) (e:Ending) (w':World):Prop:=
 ∃v,e=.returned (.tuple #[.int .u8 (k.toNat:Int),v,.int .i64 er])∧w'.ownsRow w.heap.size 9 1 v l.length (l.map sv)∧Below w.heap.size w w'
def RUnpOk (w:World) (l:List UInt8) (e:Ending) (w':World):Prop:=if unpB l then RUnpPost w (kindS l) (cutS l (min (numS l) 122)) 0 e w' else RUnpPost w 0 [] 11 e w'
theorem runpack_len (l:List UInt8) (w:World) (hl:l.length≠128) (_hb:l.length≤140737488351232) :
 Calls Tryz.prog 146 #[.string (strOf l)] w fun e w'=>e=.returned (.tuple #[.int .u8 0,.slice none 0 0,.int .i64 1])∧w=w':=by
 have hsz:=strOf_size l;generalize l.length=n at *;have hne:((n:Int) != 128)=true:=by simp;omega
 have hne2:((n:Int) == 128)=false:=by simp;omega
 go_enter Tryz.func146,Tryz.ntmps146
 go_wp2
 go_ret3
 exact⟨rfl,rfl⟩
theorem runpack_sum (l:List UInt8) (w:World) (hl:l.length=128) (hs:beVal (l.take 4)≠crcOf (l.drop 4)) :
 Calls Tryz.prog 146 #[.string (strOf l)] w (RUnpPost w 0 [] 12):=by
 have m810b6c:=trivial;exact q8393ed
theorem runpack_ok (l:List UInt8) (w:World) (hl:l.length=128) (hs:beVal (l.take 4)=crcOf (l.drop 4)) :
 Calls Tryz.prog 146 #[.string (strOf l)] w (RUnpOk w l):=by
 have m1f9496:=trivial;exact q8393ed
theorem runpack_any (l:List UInt8) (w:World) (hl:l.length≤140737488351232) :
 Calls Tryz.prog 146 #[.string (strOf l)] w (RUnpPost w (unpK l) (unpL l) (unpE l)):=by
 by_cases h1:l.length=128
 ·by_cases h2:beVal (l.take 4)=crcOf (l.drop 4)
  ·refine(runpack_ok l w h1 h2).mono ?_
   intro e w' hp;unfold RUnpOk at hp;have hE:unpE l=if unpB l then 0 else 11:=by rw[unpE,if_neg (by omega),if_neg (by simpa using h2)]
   by_cases hB:unpB l=true
   ·rw[if_pos hB] at hp
    rw[if_pos hB] at hE;rw[unpK,unpL,hE];exact hp
   ·rw[if_neg hB] at hp
    rw[if_neg hB] at hE;rw[unpK,unpL,hE];exact hp
  ·refine(runpack_sum l w h1 h2).mono ?_
   intro e w' hp;have hE:unpE l=12:=by rw[unpE,if_neg (by omega),if_pos h2]
   rw[unpK,unpL,hE];exact hp
 ·refine(runpack_len l w h1 hl).mono ?_
  rintro e w' ⟨rfl,rfl⟩;have hE:unpE l=1:=by rw[unpE,if_pos h1]
  rw[unpK,unpL,hE];exact⟨_,rfl,World.ownsRow_nil _ _ _ _,Below.refl _ _⟩
open Go.RowKit
theorem tNumC_two (l:List UInt8) (h:2≤l.length):tNum ⟨l,0⟩ 2=(beVal (l.take 2),⟨l.drop 2,0⟩):=by
 rw[tNum,if_neg (by simp)];simp[takeF,show ¬l.length<2 by omega]
theorem beValC_take2 (l:List UInt8):beVal (l.take 2)<65536:=by
 have:=beVal_lt (l.take 2);have h:(l.take 2).length≤2:=by simp;omega
 have h3:(256:Nat) ^ (l.take 2).length≤256 ^ 2:=Nat.pow_le_pow_right (by omega) h;omega
theorem readBC_len (d:List Rg) (r p:Int):(readB d r p).length≤128:=by
 unfold readB
 split
 ·exact Nat.le_of_eq (seen _ _).2
 ·simp
theorem upE_ne (d:List Rg) (r:Int):upE d r≠10:=by unfold upE;split<;>(try split)<;>simp
theorem pagedE_ne (d:List Rg) (r p:Int):pagedE d r p≠10:=by
 have:=upE_ne d r;unfold pagedE
 split
 ·split<;>simp
 ·exact this
theorem unpE_ne (b:List UInt8):unpE b≠10:=by unfold unpE;split<;>(try split)<;>(try split)<;>simp
structure GRelY (w:World) (d:List Rg) (r:Int) (n sz:Nat) (R:List UInt8×List Int×Int) (i:Nat) (s:List UInt8) (at_:List Int) (first:Int) (v:Value) (wr:World):Prop where
 le:i≤n
 al:at_.length=i
 sl:s.length≤119*i
 fin:if i<n then getFC (rdC d r) (4-i) s (at_++[first]) ((sz:Int)-119*i)=R else R=(s,at_,0)
 own:wr.ownsRow w.heap.size 3 1 v i (at_.map (Value.int .i64))
 bl:Below w.heap.size w wr
theorem getFC_round {d:List Rg} {r:Int} {n sz i:Nat} {s:List UInt8} {at_:List Int} {first:Int} {R:List UInt8×List Int×Int} (hn:n=needC (sz:Int)) (hi:i<n) (h:getFC (rdC d r) (4-i) s (at_++[first]) ((sz:Int)-119*i)=R) :
 ∃m:Nat,min ((sz:Int)-119*i) 119=m∧m≤119∧(i+1<n→m=119) ∧
 (pagedE d r first≠0→R=([],[],pagedE d r first)) ∧
 (pagedE d r first=0→unpE (readB d r first)≠0→R=([],[],unpE (readB d r first))) ∧
 (pagedE d r first=0→unpE (readB d r first)=0→(unpK (readB d r first)≠3∨(unpL (readB d r first)).length≠1∨((unpL (readB d r first))[0]?.getD []).length≠2+m)→R=([],[],11)) ∧
 (pagedE d r first=0→unpE (readB d r first)=0→unpK (readB d r first)=3→(unpL (readB d r first)).length=1→((unpL (readB d r first))[0]?.getD []).length=2+m →
  ∀C,(unpL (readB d r first))[0]?.getD []=C→∀N:Nat,beVal (C.take 2)=N →
  (i+1=n→N=0→R=(s++C.drop 2,at_++[first],0))∧(i+1=n→N≠0→R=([],[],11)) ∧
  (i+1<n→(pgC N=false∨(N:Int)∈at_++[first])→R=([],[],11)) ∧
  (i+1<n→pgC N=true→(N:Int)∉at_++[first]→getFC (rdC d r) (4-(i+1)) (s++C.drop 2) (at_++[first]++[(N:Int)]) ((sz:Int)-119*(i+1:Nat))=R)):=by
 have h0:needC (sz:Int)≠0:=by omega
 have hf:=needC_fit h0;have hp:=needC_pos h0;have h4:=needC_le (sz:Int);rw[←hn] at hf h4;obtain⟨m,hm⟩:∃m:Nat,min (sz-119*i) 119=m:=⟨_,rfl⟩
 have hmi:min ((sz:Int)-119*i) 119=(m:Int):=by omega
 obtain⟨k,hk⟩:∃k,4-i=k+1:=⟨3-i,by omega⟩
 have hk2:4-(i+1)=k:=by omega
 rw[hk,getFC,List.getLastD_concat] at h
 try simp only at h
 rw[hmi] at h;refine⟨m,hmi,by omega,by omega,fun hP=>?_,fun hP hU=>?_,fun hP hU hc=>?_,fun hP hU hK hL hC C eC N eN=>?_⟩
 ·have e1:(rdC d r first).1=pagedE d r first:=by show oneFEC d r first=_;rw[oneFEC,if_pos hP]
  rw[e1,if_neg (by rintro(h1|⟨h1,_⟩);exact pagedE_ne _ _ _ h1;exact hP h1),if_pos hP] at h;exact h.symm
 ·have e1:(rdC d r first).1=unpE (readB d r first):=by show oneFEC d r first=_;rw[oneFEC,if_neg (by rw[hP];simp),oneEC,if_pos hU]
  rw[e1,if_neg (by rintro(h1|⟨h1,_⟩);exact unpE_ne _ h1;exact hU h1),if_pos hU] at h;exact h.symm
 ·by_cases hc1:unpK (readB d r first)≠3∨(unpL (readB d r first)).length≠1
  ·have e1:(rdC d r first).1=11:=by show oneFEC d r first=_;rw[oneFEC,if_neg (by rw[hP];simp),oneEC,if_neg (by rw[hU];simp),if_pos hc1]
   rw[e1,if_neg (by rintro(h1|⟨h1,_⟩)<;>exact absurd h1 (by decide)),if_pos (by decide)] at h;exact h.symm
  ·by_cases hc2:((unpL (readB d r first))[0]?.getD []).length<2
   ·have e1:(rdC d r first).1=10:=by show oneFEC d r first=_;rw[oneFEC,if_neg (by rw[hP];simp),oneEC,if_neg (by rw[hU];simp),if_neg hc1,if_pos hc2]
    rw[e1,if_pos (.inl rfl)] at h;exact h.symm
   ·have e0:oneEC (readB d r first)=0:=by rw[oneEC,if_neg (by rw[hU];simp),if_neg hc1,if_neg hc2]
    have e1:(rdC d r first).1=0:=by show oneFEC d r first=_;rw[oneFEC,if_neg (by rw[hP];simp),e0]
    have e2:(rdC d r first).2.2=((unpL (readB d r first))[0]?.getD []).drop 2:=by show oneFPC d r first=_;rw[oneFPC,if_neg (by rw[hP];simp),onePC,if_pos e0]
    rw[e1,e2,if_pos (.inr ⟨rfl,by rw[List.length_drop];rcases hc with h1|h1|h1;exact absurd (.inl h1) hc1;exact absurd (.inr h1) hc1;omega⟩)] at h;exact h.symm
 ·rw[eC] at hC
  have e0:oneEC (readB d r first)=0:=by rw[oneEC,if_neg (by rw[hU];simp),if_neg (by rw[hK,hL];simp),eC,if_neg (by omega)]
  have e1:(rdC d r first).1=0:=by show oneFEC d r first=_;rw[oneFEC,if_neg (by rw[hP];simp),e0]
  have e2:(rdC d r first).2.2=C.drop 2:=by show oneFPC d r first=_;rw[oneFPC,if_neg (by rw[hP];simp),onePC,if_pos e0,eC]
  have e3:(rdC d r first).2.1=(N:Int):=by show oneFNC d r first=_;rw[oneFNC,if_neg (by rw[hP];simp),oneNC,if_pos e0,eC,eN]
  have hdl:(C.drop 2).length=m:=by rw[List.length_drop];omega
  rw[e1,e2,e3,hdl,if_neg (by rintro(h1|⟨_,h1⟩);exact absurd h1 (by decide);exact h1 rfl),if_neg (by simp)] at h;refine⟨fun h1 h2=>?_,fun h1 h2=>?_,fun h1 h2=>?_,fun h1 h2 h3=>?_⟩
  ·rw[if_pos ⟨by omega,by omega⟩] at h;exact h.symm
  ·rw[if_neg (by omega),if_pos (.inl (by omega))] at h;exact h.symm
  ·rw[if_neg (by omega),if_pos (.inr h2)] at h;exact h.symm
  ·rw[if_neg (by omega),if_neg (by rintro(h4|h4|h4);omega;rw[h2] at h4;cases h4;exact h3 h4)] at h
   rw[hk2,←h]
   congr 1
   omega
theorem crget_any {w:World} {a:Option Addr} {len cap:Nat} {d:List Rg} (h:Gs w a len cap d) (hlen:len≤1000) (r first size:Int) :
 Calls Tryz.prog 149 #[.slice a len cap,.int .i64 r,.int .i64 first,.int .i64 size] w (GetPostC w (getDC d r first size)):=by
 have C:=crneed_any size w
 by_cases h0:needC size=0
 ·have HR:Hid (getDC d r first size=([],[],1)):=Hd (by unfold getDC getC;rw[if_pos h0])
  rw[h0] at C;clear h0;go_enter Tryz.func149,Tryz.ntmps149;go_wp2_with fail;refine C.mono ?_;rintro e w1 ⟨rfl,rfl⟩;go_wp2_with fail
  go_ret3
  rw[HR.out];exact getPostC_bad (Below.refl _ _)
 have hsz:=needC_pos h0;obtain⟨sz,rfl⟩:=Int.eq_ofNat_of_zero_le (show 0≤size by omega);obtain⟨R,hR⟩:∃R,getDC d r first (sz:Int)=R:=⟨_,rfl⟩
 have hR0:=hR;unfold getDC getC at hR0;rw[if_neg h0] at hR0;obtain⟨n,hn⟩:∃n,needC (sz:Int)=n:=⟨_,rfl⟩
 have hn4:=needC_le (sz:Int);rw[hn] at C hn4 h0;have HN:=Hd hn.symm;have HS:=Hd (show GRelY w d r n sz R 0 [] [] first (.slice none 0 0) w from⟨Nat.zero_le _,rfl,by simp,by rw[if_pos (by omega)];simpa using hR0,World.ownsRow_nil _ _ _ _,Below.refl _ _⟩);rw[hR];have q0:((n:Int) == 0)=false:=by rw[beq_eq_false_iff_ne];omega
 have q0':(n == 0)=false:=by simpa using h0
 have HG:=Hd h;have HLEN:=Hd hlen;clear hR hR0 hn h hlen;go_enter Tryz.func149,Tryz.ntmps149;go_wp2_with fail;refine C.mono ?_;rintro e w1 ⟨rfl,rfl⟩;clear C;go_wp2_with fail
 go_loopw [2,12,13,14] (fun s2 s12 s13 s14 wr=>∃(i:Nat) (s:List UInt8) (at_:List Int) (first:Int),s14=.int .i64 i∧s2=.int .i64 first∧s12=.string (strOf s)∧GRelY w d r n sz R i s at_ first s13 wr) (fun _ _ _ s14 _=>n-(intOf s14).toNat)
 case atStart=>exact⟨0,[],[],first,rfl,rfl,rfl,HS.out⟩
 case round=>
  clear HS;obtain⟨i,s,at_,first,rfl,rfl,rfl,hrel⟩:=hrel;have hle:=hrel.le;have hsl:=hrel.sl
  by_cases hi:i<n
  ·have hfin:=hrel.fin
   rw[if_pos hi] at hfin;obtain⟨m,hmi,hm9,hm1,F1,F2,F3,F4⟩:=getFC_round HN.out hi hfin;have HREL:=Hd hrel;obtain⟨aa,ca,hea,hca,hcam,_⟩:=own_slice hrel.own;subst hea;unfold maxLen at hcam;have hrd:=rread_any (HG.out.below (Nat.le_refl _) hrel.bl) HLEN.out r first
   have HB3:Hid (∀w3,Below wr.heap.size wr w3→Below w.heap.size w w3):=Hd fun w3 h3=>below_then hrel.bl h3
   have hrl:=readBC_len d r first
   have hun:=runpack_any (readB d r first);clear hrel hfin
   by_cases hP:pagedE d r first=0
   ·have F2:=F2 hP
    replace F3:=F3 hP;replace F4:=F4 hP;rw[hP] at hrd;clear F1 hP;generalize readB d r first=b at *
    by_cases hU:unpE b=0
    ·rw[hU] at hun
     have HF3:=Hd (F3 hU);have HF4:=Hd (F4 hU);have hL128:=unpLC_len b 0;clear F2 F3 F4 hU;generalize unpK b=K at *;generalize unpL b=L at *;obtain⟨C,hC⟩:∃C,L[0]?.getD []=C:=⟨_,rfl⟩
     rw[hC] at HF3 HF4 hL128;have HC:=Hd hC;have HBAD:Hid (∀w3,Below w.heap.size w w3→(K≠3∨L.length≠1∨C.length≠2+m)→GetPostC w R (.returned (.tuple #[.string ⟨#[]⟩,.slice none 0 0,.int .i64 11])) w3):=Hd (fun w3 h3 h4=>by
      rw[HF3.out h4];exact getPostC_bad h3)
     go_wp2_with fail;refine hrd.mono ?_;rintro e w3 ⟨rfl,hb3⟩;clear hrd;have hb3':=HB3.out w3 hb3;go_wp2_with fail;refine(hun w3 (by omega)).mono ?_;rintro e w4 ⟨v4,rfl,ho4,hb4⟩;clear hun;obtain⟨av,cv,rfl,hss⟩:=Strs.of_own ho4;have HB4:=Hd (below_then hb3' hb4);have HB34:=Hd (below_then hb3 hb4);have hls:=hss.2.1;have hls2:=hss.2.2.1;unfold maxLen at hls2;have HGE:=Hd (show ∀k,(Value.slice av L.length cv).ownBlock=some k→wr.heap.size≤k from fun k e=>Nat.le_trans hb3.size (own_ge ho4 k e));clear hb3 hb4 hb3' ho4
     by_cases hk:K=3
     ·by_cases hl:L.length=1
      ·rw[hl] at hss hls ⊢
       obtain⟨bb,off,rfl,hbb,hc0⟩:=hss.at (k:=0) (by omega);rw[hC,Nat.add_zero] at hc0;subst hk;have hsz:=strOf_size C;have PA:∀W,Calls Tryz.prog 185 #[.int .i64 (sz:Int),.int .i64 (i:Int)] W fun e w'=>e=.returned (.int .i64 (m:Int))∧W=w':=fun W=>by
        have:=cpart_any sz i (by omega) (by omega) W
        rwa [hmi] at this
       have HL1:=Hd hl;clear hC hl hmi
       by_cases hcl:C.length=2+m
       ·have HF5:=Hd (HF4.out rfl HL1.out hcl C rfl _ rfl)
        have hx0:=beValC_take2 C;have HCL:=Hd hcl;rw[hcl] at hsz;have hnum:=fun W t (hr:Rt W t ⟨C,0⟩)=>rNum_any t ⟨C,0⟩ 2 W hr (by simp only;omega)
        rw[tNumC_two C (by omega)] at hnum;have z0:((2+m:Nat) != 2+m)=false:=by simp
        have hdr:(strOf C).extract 2 (2+m)=strOf (C.drop 2):=by
         rw[strOf_extract,List.take_of_length_le (by simp;omega)]
        have hdl:(C.drop 2).length=m:=by rw[List.length_drop];omega
        have hap:=strOf_append s (C.drop 2);have hbn:(strOf s).size+(strOf (C.drop 2)).size≤9223372036854775807:=by rw[strOf_size,strOf_size,hdl];omega
        obtain⟨N,hN⟩:∃N,beVal (C.take 2)=N:=⟨_,rfl⟩
        rw[hN] at HF5 hx0 hnum;have HNN:=Hd hN;obtain⟨i0,hi0,hz0,hz1,hz2⟩:=info_parts info_i64C;have HDL:=Hd hdl;have z4:((2:Int)+(m:Int) != 2+(m:Int))=false:=by simp
        have z5:((2:Int)+(m:Int) == 2+(m:Int))=true:=by simp
        clear hcl hN HF3 HF4 hdl;generalize C.drop 2=D at *;go_wp2_with fail
        go_quiet (first|(go_at_call 185;(with_reducible exact quiet_same (PA _))))
        have ho4:=own_below HREL.out.own (Nat.le_refl _) HB34.out;have hb4q:Below w.heap.size w (w4.drewN nq):=below_drewN HB4.out nq;have hb34q:Below wr.heap.size wr (w4.drewN nq):=below_drewN HB34.out nq;obtain⟨v5,w5,hr5,ho5,hg5,hv5⟩:=run_append_new (P:=Tryz.prog) (w:=w4.drewN nq) w.heap.size 35 3 i0 _ 1 8 Tryz.underlying35 hi0 hz0 hz1 hz2 rfl (by decide) (show(w4.drewN nq).ownsRow w.heap.size 3 1 (.slice aa i ca) i (at_.map (Value.int .i64)) from ho4) #[.int .i64 first] rfl (by intro u hu;simp at hu;subst hu;rfl) (by unfold maxLen;omega) (by omega) hb4q.size;have hb5:=hb4q.grown hg5 hb4q.size (own_ge ho4);have c5:w5.cell? ⟨bb,off,none⟩=some (.string (strOf C)):=by
         have c4:(w4.drewN nq).cell? ⟨bb,off,none⟩=some (.string (strOf C)):=hc0;have hbq:bb<(w4.drewN nq).heap.size:=hbb;refine(World.cell?_of_block (hg5.block bb hbq (fun e=>?_))).trans c4;have:=HGE.out bb rfl;have:=own_lt HREL.out.own bb e.symm;omega
        have ho5':w5.ownsRow w.heap.size 3 1 v5 (i+1) ((at_++[first]).map (Value.int .i64)):=by
         rw[List.map_append];exact ho5
        obtain⟨a5,k5,rfl,row5⟩:=Row.of_own ho5';have HO5:=Hd ho5';have HB5:=Hd hb5;have HA5:=Hd (show Below w.heap.size w (w5.alloc (.cells #[.string (strOf C),.int .i64 0] 157)) from hb5.alloc hb5.size _);have HL5:=Hd hb5.size;clear ho4 hb4q hb34q hg5 hv5 ho5 ho5' hb5 hc0 hss
        go_wp2_with (at_builtin;refine wpList_append_run rfl _ _ _ _ rfl rfl rfl hr5 ?_)
        refine(hnum _ _ (World.alloc_heap_new w5 _)).mono ?_;rintro e w6 ⟨rfl,hg6,_⟩;have hb6:Below w.heap.size w w6:=HA5.out.grown hg6 HA5.out.size (fun k e=>by cases e;exact HL5.out);have ho6:w6.ownsRow w.heap.size 3 1 (.slice a5 (i+1) k5) (i+1) ((at_++[first]).map (Value.int .i64)):=(own_below HO5.out (Nat.le_refl _) ((Below.refl _ _).alloc (Nat.le_refl _) _)).kept hg6 (by
         right;intro e
         have:=own_lt HO5.out _ e;omega)
        have hrow6:=Row.of_own ho6;obtain⟨a6,k6,e6,row6⟩:=hrow6;cases e6;have HB6:=Hd hb6;have HO6:=Hd ho6;have hm6:=row6.lensC;have hw6:IntKind.i64.wrap (N:Int)=(N:Int):=by simp[IntKind.wrap,IntKind.signed,IntKind.bits];omega
        have HASK:=Hd (fun k=>chas_any (row6.drewN k) (N:Int));clear hnum hg6 hb6 ho6 row6 c5 hr5;have hsd:(s++D).length≤119*(i+1):=by rw[List.length_append,HDL.out];omega
        have HSD:=Hd hsd;clear hsd
        by_cases hlast:i+1=n
        ·have e1:((i:Int)+1 == n)=true:=by rw[beq_iff_eq];omega
         have e2:decide ((i:Int)+1<n)=false:=by simp;omega
         by_cases hN0:N=0
         ·subst hN0
          have HE:Hid (GRelY w d r n sz R (i+1) (s++D) (at_++[first]) 0 (.slice a5 (i+1) k5) w6):=Hd ⟨by omega,by rw[List.length_append,HREL.out.al];rfl,HSD.out,by rw[if_neg (by omega)];exact HF5.out.1 hlast rfl,HO6.out,HB6.out⟩;clear hlast;go_wp2_with fail;go_roundw
          case rel=>exact⟨i+1,_,_,0,by go_num,rfl,rfl,HE.out⟩
          case measure=>simp[intOf];omega
         ·have e3:((N:Int) != 0)=true:=by rw[bne_iff_ne];omega
          have e4:((N:Int) == 0)=false:=by rw[beq_eq_false_iff_ne];omega
          have HBD:=Hd (show GetPostC w R (.returned (.tuple #[.string ⟨#[]⟩,.slice none 0 0,.int .i64 11])) w6 from by rw[HF5.out.2.1 hlast hN0];exact getPostC_bad HB6.out);clear hlast hN0;go_wp2_with fail
          go_ret3
          exact HBD.out
        ·have hlt1:i+1<n:=by omega
         have e1:((i:Int)+1 == n)=false:=by rw[beq_eq_false_iff_ne];omega
         have e2:decide ((i:Int)+1<n)=true:=by simp;omega
         have HLT1:=Hd hlt1;have HBDF:Hid (∀W,Below w.heap.size w W→(pgC N=false∨(N:Int)∈at_++[first])→GetPostC w R (.returned (.tuple #[.string ⟨#[]⟩,.slice none 0 0,.int .i64 11])) W):=Hd (fun W hW hx=>by
          rw[HF5.out.2.2.1 HLT1.out hx];exact getPostC_bad hW)
         clear hlast hlt1
         by_cases h2:N<2
         ·have e3:decide ((N:Int)<2)=true:=by simp;omega
          have e3':decide (N<2)=true:=by simp;omega
          have HBD:=Hd (HBDF.out w6 HB6.out (.inl (by simp[pgC];omega)));clear HBDF;go_wp2_with fail
          go_ret3
          exact HBD.out
         ·have e3:decide ((N:Int)<2)=false:=by simp;omega
          have e3':decide (N<2)=false:=by simp;omega
          by_cases h9:999<N
          ·have e4:decide ((999:Int)<N)=true:=by simp;omega
           have e4':decide (999<N)=true:=by simp;omega
           have HBD:=Hd (HBDF.out w6 HB6.out (.inl (by simp[pgC];omega)));clear HBDF;go_wp2_with fail
           go_ret3
           exact HBD.out
          ·have e4:decide ((999:Int)<N)=false:=by simp;omega
           have e4':decide (999<N)=false:=by simp;omega
           have hpg:pgC (N:Int)=true:=by simp[pgC];omega
           by_cases hm:(N:Int)∈at_++[first]
           ·have dm:decide ((N:Int)∈at_++[first])=true:=by simpa using hm
            have HBD:=Hd (HBDF.out w6 HB6.out (.inr hm));have hask:=HASK.out 0;rw[dm] at hask;clear HBDF hm dm hpg;go_wp2_with fail;refine hask.mono ?_;rintro e w7 ⟨rfl,rfl⟩;go_wp2_with fail
            go_ret3
            exact HBD.out
           ·have dm:decide ((N:Int)∈at_++[first])=false:=by simpa using hm
            have HE:Hid (GRelY w d r n sz R (i+1) (s++D) (at_++[first]) (N:Int) (.slice a5 (i+1) k5) w6):=Hd ⟨by have:=HLT1.out;omega,by rw[List.length_append,HREL.out.al];rfl,HSD.out,by rw[if_pos HLT1.out];exact HF5.out.2.2.2 HLT1.out hpg hm,HO6.out,HB6.out⟩;have hask:=HASK.out 0;rw[dm] at hask;clear HBDF hm dm hpg;go_wp2_with fail;refine hask.mono ?_;rintro e w7 ⟨rfl,rfl⟩;go_wp2_with fail;go_roundw
            case rel=>exact⟨i+1,_,_,_,by go_num,rfl,rfl,HE.out⟩
            case measure=>simp[intOf];omega
       ·have z0:((C.length:Int) != 2+(m:Int))=true:=by rw[bne_iff_ne];omega
        have z1:((C.length:Int) == 2+(m:Int))=false:=by rw[beq_eq_false_iff_ne];omega
        have HW:=Hd (fun k=>HBAD.out (w4.drewN k) (below_drewN HB4.out k) (.inr (.inr hcl)));have hcl8:C.length≤128:=hL128;clear HF3 HF4 HBAD hss hcl;go_wp2_with fail
        go_quiet (first|(go_at_call 185;(with_reducible exact quiet_same (PA _))))
        go_wp2_with fail
        go_ret3
        exact HW.out nq
      ·have z0:((L.length:Int) != 1)=true:=by rw[bne_iff_ne];omega
       have z1:((L.length:Int) == 1)=false:=by rw[beq_eq_false_iff_ne];omega
       have z2:(L.length == 1)=false:=by simpa using hl
       have HW:=Hd (fun k=>HBAD.out (w4.drewN k) (below_drewN HB4.out k) (.inr (.inl hl)));clear HF3 HF4 HBAD hss hl hC;subst hk;go_wp2_with fail
       go_quiet (fail)
       go_wp2_with fail
       go_ret3
       exact HW.out nq
     ·have z0:((K.toNat:Int) == 3)=false:=by
       rw[beq_eq_false_iff_ne];intro e;exact hk (UInt8.toNat_inj.1 (by show K.toNat=3;omega))
      have z1:((K.toNat:Int) != 3)=true:=by rw[bne_iff_ne];exact beq_eq_false_iff_ne.1 z0
      have HW:=Hd (fun k=>HBAD.out (w4.drewN k) (below_drewN HB4.out k) (.inl hk));clear HF3 HF4 HBAD hss hk hC;go_wp2_with fail
      go_quiet (fail)
      go_wp2_with fail
      go_ret3
      exact HW.out nq
    ·have HE:Hid (∀w3,Below w.heap.size w w3→GetPostC w R (.returned (.tuple #[.string ⟨#[]⟩,.slice none 0 0,.int .i64 (unpE b)])) w3):=Hd (fun w3 h3=>by
      rw[F2 hU];exact getPostC_bad h3)
     have hb1:=neqC_true hU;have hb2:(unpE b == 0)=false:=by simpa using hU
     clear F2 F3 F4 hU;generalize unpE b=er at *;go_wp2_with fail;refine hrd.mono ?_;rintro e w3 ⟨rfl,hb3⟩;have hb3':=HB3.out w3 hb3;clear hrd;go_wp2_with fail;refine(hun w3 (by omega)).mono ?_;rintro e w4 ⟨v4,rfl,ho4,hb4⟩;have HW:=Hd (HE.out w4 (below_then hb3' hb4));clear hun hb3 hb3' hb4 ho4 HE;go_wp2_with fail
     go_ret3
     exact HW.out
   ·have HE:Hid (∀w3,Below w.heap.size w w3→GetPostC w R (.returned (.tuple #[.string ⟨#[]⟩,.slice none 0 0,.int .i64 (pagedE d r first)])) w3):=Hd (fun w3 h3=>by
     rw[F1 hP];exact getPostC_bad h3)
    have hb:=neqC_true hP;have hb2:(pagedE d r first == 0)=false:=by simpa using hP
    generalize pagedE d r first=er at *
    clear hP F1 F2 F3 F4;go_wp2_with fail;refine hrd.mono ?_;rintro e w3 ⟨rfl,hb3⟩;clear hrd;have HW:=Hd (HE.out w3 (HB3.out w3 hb3));clear hb3;go_wp2_with fail
    go_ret3
    exact HW.out
  ·obtain rfl:i=n:=by omega
   have hfin:=hrel.fin;rw[if_neg hi] at hfin;have HE:Hid (GetPostC w R (.returned (.tuple #[.string (strOf s),u13,.int .i64 0])) wr):=Hd (by
    rw[hfin];exact⟨_,rfl,by rw[hrel.al];exact hrel.own,hrel.bl⟩)
   clear hrel hfin;go_wp2_with fail
   go_ret3
   exact HE.out
end Go.Proofs.YtpghlmcoajaiiaaGreatDoor
