/- What follows of it. -/
import Derived.Test.YtpghlmcoajaiiaaGreatDoorM13
set_option maxHeartbeats 20000000
set_option maxRecDepth 100000
namespace Go.Proofs.YtpghlmcoajaiiaaGreatDoor
open Go.RowKit
theorem dec_len {n:Nat} {b:Nat}:decide (n≤b) = !decide ((b:Int)<(n:Int)):=by
 by_cases h:n≤b
 ·rw[decide_eq_true h,decide_eq_false (by omega)];rfl
 ·rw[decide_eq_false h,decide_eq_true (by omega)];rfl
theorem beq_nil (k:List UInt8):(k == [])=decide (k=[]):=by
 cases k<;>rfl
theorem fitAt_bools {lo hi k:List UInt8} {leaf:Bool} {ks:List (List UInt8)} {i:Nat} (hk:ks[i]?.getD []=k) :
 fitAt lo hi leaf ks i=(((i == 0 && !leaf) == decide (k=[])) && (!decide ((16:Int)<(k.length:Int)) && ((i == 0 || decide (ks[i-1]?.getD []<k)) && (((i == 0 && !leaf) || !decide (k<lo)) && (decide (hi=[]) || decide (k<hi)))))):=by
 unfold fitAt;rw[hk,beq_nil,beq_nil,dec_len]
 rfl
theorem fitAt_any {lo hi k kp:List UInt8} {leaf:Bool} {ks:List (List UInt8)} {i:Nat} {F P:Bool} (hk:ks[i]?.getD []=k) (hp:ks[i-1]?.getD []=kp) (hF:(i == 0 && !leaf)=F) (hP:decide ((0:Int)<(i:Int))=P) :
 fitAt lo hi leaf ks i=((F == decide (k=[])) && (!decide ((16:Int)<(k.length:Int)) && ((!P || !(!decide (kp<k))) && ((F || !decide (k<lo)) && (!(!decide (hi=[])) || !(!decide (k<hi))))))):=by
 have e:(i == 0) = !P:=by
  rw[←hP]
  by_cases h:i=0
  ·subst h;rfl
  ·rw[decide_eq_true (by omega)];simpa using h
 rw[fitAt_bools hk,hp,hF,e,Bool.not_not,Bool.not_not,Bool.not_not]
theorem valB_bools {v:Tv} {dl pn nd:Nat} (h1:v.data.length=dl) (h2:v.pages.length=pn) (h3:needC (dl:Int)=nd) :
 valB v=(!decide ((400:Int)<(dl:Int)) && !(decide ((0:Int)<(pn:Int)) && decide (nd=0))):=by
 unfold valB;rw[h1,h2,h3,dec_len];have e:(pn == 0 || decide (nd≠0)) = !(decide ((0:Int)<(pn:Int)) && decide (nd=0)):=by
  by_cases hp:pn=0
  ·subst hp;simp
  ·have:decide ((0:Int)<(pn:Int))=true:=decide_eq_true (by omega)
   rw[this]
   by_cases hn:nd=0<;>simp[hp,hn]
 rw[e]
 rfl
open Go.RowKit
theorem rnode_leaf {n:Nat}
 {F:Nat→Prop} {w:World} {cs:List Value} {p:Int} {l:List (List UInt8×Tv)} (h:RNodeOn F (n+1) w cs (.leaf p l)) (hb:Bnd (n+1) (.leaf p l)) (_hn:n≤1000) (lo hi:List UInt8) (root:Bool) (_hlo:lo.length≤1000) (hhi:hi.length≤1000) :
 Calls Tryz.prog 103 #[.agg cs.toArray,.string (strOf lo),.string (strOf hi),.bool root] w fun e w'=>e=.returned (.int .i64 (depI (depthT (n+1) (.leaf p l) lo hi root)))∧Below w.heap.size w w':=by
 have CS:=fun W (hW:Below w.heap.size w W)=>rsizes_any (h.below hW) hb
 have hSm:=hb.small;obtain⟨a,c,rfl,h1,_⟩:=h.at;obtain⟨g1,g2⟩:=hb;obtain⟨e1,e2,e3⟩:=h1.lens;obtain⟨m,hml⟩:∃m,cntT (.leaf p l)=m:=⟨_,rfl⟩
 have hlm:l.length=m:=hml;obtain⟨R,hR⟩:∃R,depthT (n+1) (.leaf p l) lo hi root=R:=⟨_,rfl⟩
 obtain⟨S,hS⟩:∃S,sizesT (.leaf p l)=S:=⟨_,rfl⟩
 have hsz:sizeB root (.leaf p l)=(decide (1≤m) && (decide (sumI S≤122) && (root || !decide (sumI S<30)))):=by
  unfold sizeB sumT lowT;rw[hml,←hS];rfl
 obtain⟨sm,hsm⟩:∃x,sumI S=x:=⟨_,rfl⟩
 rw[hS] at CS hSm;rw[hsm] at hsz;have hd:=depthT_leaf n p l lo hi root;rw[hR] at hd;have hfit:fitT lo hi (.leaf p l)=(fitTo lo hi true (keysOf l) m && l.all fun c=>valB c.2):=by rw[←hlm];rfl
 generalize sizeB root (.leaf p l)=SZ at *;generalize fitT lo hi (.leaf p l)=FT at *;rw[hR,show(Tr.leaf p l).page=p from rfl,show(Tr.leaf p l).isLeaf=true from rfl];rw[hml] at h1 e1 e2 CS ⊢;have HV:=Hd h1;have HSm:=Hd hSm;have HSM:=Hd hsm;have HSZ:=Hd hsz;have HD:=Hd hd;have HFT:=Hd hfit;have HL:=Hd hlm;have HG:=Hd g2;have hm9:m≤1000:=by omega
 have HB0:=Hd ((Below.refl _ _).alloc (Nat.le_refl _) _:Below w.heap.size w (w.alloc (.cells #[.int .i64 p,.bool true,.slice a m c] 27)));have HX0:=Hd ((Boxes.nil w).alloc #[.int .i64 p,.bool true,.slice a m c] 27 (b:=w.heap.size) rfl);obtain⟨W1,hW1⟩:∃x,w.alloc (.cells #[.int .i64 p,.bool true,.slice a m c] 27)=x:=⟨_,rfl⟩
 rw[hW1] at HB0 HX0;have CS1:=CS _ HB0.out;have CS2:∀W,Below W1.heap.size W1 W→Calls Tryz.prog 126 #[.agg #[.int .i64 p,.bool true,.slice a m c]] W (SizesPost W S):=fun W hW=>CS W (below_via HB0.out hW)
 clear h h1 g1 g2 e1 hml hS hR hd hfit hsz hsm hSm hlm CS;have n0:=HX0.out.cell 0 0 rfl rfl;have n1:=HX0.out.cell 0 1 rfl rfl;have n2:=HX0.out.cell 0 2 rfl rfl;show Calls _ _ #[.agg #[.int .i64 p,.bool true,.slice a m c],.string (strOf lo),.string (strOf hi),.bool root] _ _;have zm:=Mk.i 619851;exact q44d6a3
end Go.Proofs.YtpghlmcoajaiiaaGreatDoor
