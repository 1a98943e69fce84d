/- What follows of it. -/
import Derived.Test.YtpghlmcoajaiiaaGreatDoorB12
set_option maxHeartbeats 20000000
set_option maxRecDepth 100000
namespace Go.Proofs.YtpghlmcoajaiiaaGreatDoor
open Go.RowKit
theorem dec_len {n:Nat} {b:Nat}:decide (n≤b) = !decide ((b:Int)<(n:Int)):=by
 by_cases h:n≤b
 ·rw[decide_eq_true h,decide_eq_false (by omega)];rfl
 ·rw[decide_eq_false h,decide_eq_true (by omega)];rfl
theorem beq_nil (k:List UInt8):(k == [])=decide (k=[]):=by
 cases k<;>rfl
theorem fitAt_bools {lo hi k:List UInt8} {leaf:Bool} {ks:List (List UInt8)} {i:Nat} (hk:ks[i]?.getD []=k) :
 fitAt lo hi leaf ks i=(((i == 0 && !leaf) == decide (k=[])) && (!decide ((16:Int)<(k.length:Int)) && ((i == 0 || decide (ks[i-1]?.getD []<k)) && (((i == 0 && !leaf) || !decide (k<lo)) && (decide (hi=[]) || decide (k<hi)))))):=by
 unfold fitAt;rw[hk,beq_nil,beq_nil,dec_len]
 rfl
theorem fitAt_any {lo hi k kp:List UInt8} {leaf:Bool} {ks:List (List UInt8)} {i:Nat} {F P:Bool} (hk:ks[i]?.getD []=k) (hp:ks[i-1]?.getD []=kp) (hF:(i == 0 && !leaf)=F) (hP:decide ((0:Int)<(i:Int))=P) :
 fitAt lo hi leaf ks i=((F == decide (k=[])) && (!decide ((16:Int)<(k.length:Int)) && ((!P || !(!decide (kp<k))) && ((F || !decide (k<lo)) && (!(!decide (hi=[])) || !(!decide (k<hi))))))):=by
 have e:(i == 0) = !P:=by
  rw[←hP]
  by_cases h:i=0
  ·subst h;rfl
  ·rw[decide_eq_true (by omega)];simpa using h
 rw[fitAt_bools hk,hp,hF,e,Bool.not_not,Bool.not_not,Bool.not_not]
theorem valB_bools {v:Tv} {dl pn nd:Nat} (h1:v.data.length=dl) (h2:v.pages.length=pn) (h3:needC (dl:Int)=nd) :
 valB v=(!decide ((400:Int)<(dl:Int)) && !(decide ((0:Int)<(pn:Int)) && decide (nd=0))):=by
 unfold valB;rw[h1,h2,h3,dec_len];have e:(pn == 0 || decide (nd≠0)) = !(decide ((0:Int)<(pn:Int)) && decide (nd=0)):=by
  by_cases hp:pn=0
  ·subst hp;simp
  ·have:decide ((0:Int)<(pn:Int))=true:=decide_eq_true (by omega)
   rw[this]
   by_cases hn:nd=0<;>simp[hp,hn]
 rw[e]
 rfl
open Go.RowKit
theorem rnode_leaf {n:Nat}
 {F:Nat→Prop} {w:World} {cs:List Value} {p:Int} {l:List (List UInt8×Tv)} (h:RNodeOn F (n+1) w cs (.leaf p l)) (hb:Bnd (n+1) (.leaf p l)) (_hn:n≤1000) (lo hi:List UInt8) (root:Bool) (_hlo:lo.length≤1000) (hhi:hi.length≤1000) :
 Calls Tryz.prog 103 #[.agg cs.toArray,.string (strOf lo),.string (strOf hi),.bool root] w fun e w'=>e=.returned (.int .i64 (depI (depthT (n+1) (.leaf p l) lo hi root)))∧Below w.heap.size w w':=by
 have CS:=fun W (hW:Below w.heap.size w W)=>rsizes_any (h.below hW) hb
 have hSm:=hb.small;obtain⟨a,c,rfl,h1,_⟩:=h.at;obtain⟨g1,g2⟩:=hb;obtain⟨e1,e2,e3⟩:=h1.lens;obtain⟨m,hml⟩:∃m,cntT (.leaf p l)=m:=⟨_,rfl⟩
 have hlm:l.length=m:=hml;obtain⟨R,hR⟩:∃R,depthT (n+1) (.leaf p l) lo hi root=R:=⟨_,rfl⟩
 obtain⟨S,hS⟩:∃S,sizesT (.leaf p l)=S:=⟨_,rfl⟩
 have hsz:sizeB root (.leaf p l)=(decide (1≤m) && (decide (sumI S≤122) && (root || !decide (sumI S<30)))):=by
  unfold sizeB sumT lowT;rw[hml,←hS];rfl
 obtain⟨sm,hsm⟩:∃x,sumI S=x:=⟨_,rfl⟩
 rw[hS] at CS hSm;rw[hsm] at hsz;have hd:=depthT_leaf n p l lo hi root;rw[hR] at hd;have hfit:fitT lo hi (.leaf p l)=(fitTo lo hi true (keysOf l) m && l.all fun c=>valB c.2):=by rw[←hlm];rfl
 generalize sizeB root (.leaf p l)=SZ at *;generalize fitT lo hi (.leaf p l)=FT at *;rw[hR,show(Tr.leaf p l).page=p from rfl,show(Tr.leaf p l).isLeaf=true from rfl];rw[hml] at h1 e1 e2 CS ⊢;have HV:=Hd h1;have HSm:=Hd hSm;have HSM:=Hd hsm;have HSZ:=Hd hsz;have HD:=Hd hd;have HFT:=Hd hfit;have HL:=Hd hlm;have HG:=Hd g2;have hm9:m≤1000:=by omega
 have HB0:=Hd ((Below.refl _ _).alloc (Nat.le_refl _) _:Below w.heap.size w (w.alloc (.cells #[.int .i64 p,.bool true,.slice a m c] 27)));have HX0:=Hd ((Boxes.nil w).alloc #[.int .i64 p,.bool true,.slice a m c] 27 (b:=w.heap.size) rfl);obtain⟨W1,hW1⟩:∃x,w.alloc (.cells #[.int .i64 p,.bool true,.slice a m c] 27)=x:=⟨_,rfl⟩
 rw[hW1] at HB0 HX0;have CS1:=CS _ HB0.out;have CS2:∀W,Below W1.heap.size W1 W→Calls Tryz.prog 126 #[.agg #[.int .i64 p,.bool true,.slice a m c]] W (SizesPost W S):=fun W hW=>CS W (below_via HB0.out hW)
 clear h h1 g1 g2 e1 hml hS hR hd hfit hsz hsm hSm hlm CS;have n0:=HX0.out.cell 0 0 rfl rfl;have n1:=HX0.out.cell 0 1 rfl rfl;have n2:=HX0.out.cell 0 2 rfl rfl;show Calls _ _ #[.agg #[.int .i64 p,.bool true,.slice a m c],.string (strOf lo),.string (strOf hi),.bool root] _ _;go_enter Tryz.func103,Tryz.ntmps103;go_wp2_with fail
 try rw[hW1]
 clear hW1;refine CS1.mono ?_;rintro e w2 ⟨v2,rfl,ho2,hb2⟩;obtain⟨sa,sc,rfl,hrow⟩:=Row.of_own ho2;have HB2:=Hd (below_via HB0.out hb2);have HX2:=Hd (HX0.out.step hb2);have CSum:∀W,Below w2.heap.size w2 W→Calls Tryz.prog 150 #[.slice sa S.length sc] W (fun e w'=>e=.returned (.int .i64 sm)∧W=w'):=fun W hW=>by
  have:=refSum_any _ _ _ _ W (Row.below (Nat.le_refl _) hW hrow) HSm.out
  rwa [HSM.out] at this
 have CLow:∀W,Below w2.heap.size w2 W→Calls Tryz.prog 151 #[.slice sa S.length sc] W (fun e w'=>e=.returned (.bool (decide (sm<30)))∧W=w'):=fun W hW=>by
  have:=refLow_any _ _ _ _ W (Row.below (Nat.le_refl _) hW hrow) HSm.out
  rwa [HSM.out] at this
 clear n0 n1 n2 ho2 hrow CS1 CS2;have n0:=HX2.out.cell 0 0 rfl rfl;have n1:=HX2.out.cell 0 1 rfl rfl;have n2:=HX2.out.cell 0 2 rfl rfl;clear hb2;go_upto_region 2 with(fail)
 go_cut [46] (fun s wq=>s=.bool (!SZ)∧w2=wq)
 case first=>
  by_cases h0:m=0
  ·have c0:((m:Int) == 0)=true:=by simp;omega
   have H0:=Hd h0;clear h0;have HE:Hid (SZ=false):=Hd (by rw[HSZ.out];simp[H0.out]);exact qb7fab6
  have c0:((m:Int) == 0)=false:=beq_eq_false_iff_ne.2 (by omega);have H0:=Hd h0;clear h0
  by_cases h2:122<sm
  ·have c2:decide ((122:Int)<sm)=true:=by simp;omega
   have H2:=Hd h2;clear h2;have HE:Hid (SZ=false):=Hd (by rw[HSZ.out];have:=H2.out;simp;intros;omega);exact qb7fab6
  have c2:decide ((122:Int)<sm)=false:=by simp;omega
  have H2:=Hd h2;clear h2;cases root with
  | true=>
   have HE:Hid (SZ=true):=Hd (by rw[HSZ.out];have:=H0.out;have:=H2.out;simp;omega);exact qb7fab6
  | false=>
   by_cases h3:sm<30
   ·simp only[h3,decide_true] at CLow
    have H3:=Hd h3;clear h3;have HE:Hid (SZ=false):=Hd (by rw[HSZ.out];have:=H3.out;simp;intros;omega);exact qb7fab6
   simp only[h3,decide_false] at CLow;have H3:=Hd h3;clear h3;have HE:Hid (SZ=true):=Hd (by rw[HSZ.out];have:=H0.out;have:=H2.out;have:=H3.out;simp;omega);exact qb7fab6
 case rest=>
 obtain⟨rfl,rfl⟩:=hcut;cases SZ with
 | false=>
  have HR:Hid (R=none):=Hd (by rw[HD.out,Bool.and_false];rfl);exact qd1db3c
 | true=>
 go_wp2_with fail
 go_loopw [10,11] (fun s10 s11 wr=>∃i far:Nat,i≤m∧s11=.int .i64 i∧s10=.int .i64 far∧far=0∧fitTo lo hi true (keysOf l) i=true∧(∀j c,j<i→l[j]? = some c→valB c.2=true)∧Below w.heap.size w wr∧Boxes wr [(w.heap.size,[.int .i64 p,.bool true,.slice a m c])]) (fun _ s _=>m-(intOf s).toNat)
 case atStart=>exact⟨0,0,Nat.zero_le _,rfl,rfl,rfl,rfl,(fun j c h=>by omega),HB2.out,HX2.out⟩
 case round=>
  clear n0 n1 n2 CSum CLow HX2 HB2 HX0 HB0;obtain⟨i,far,hi',rfl,rfl,hfar,hfit,hrest,hb,hx⟩:=hrel;subst hfar
  by_cases hlt:i<m
  rotate_left
  ·obtain rfl:i=m:=by omega
   have HR:Hid (R=some 0):=Hd (by
    rw[HD.out,HFT.out,hfit,if_pos];simp only[Bool.true_and,Bool.and_true,List.all_eq_true];intro c hc;obtain⟨j,hj,rfl⟩:=List.getElem_of_mem hc;exact hrest j _ (by rw[←HL.out];exact hj) (List.getElem?_eq_getElem hj))
   exact qf09442
  obtain⟨b,off,y,pa,pn,pc,ka,kn,kc,rfl,hbb,hy,_,hpg,_,hkt,_,c0,c1,c2,c3⟩:=RNodeOn.cell HV.out hlt;rw[cellsR_leaf] at hy;obtain⟨x,hx1,hx2⟩:=Option.map_eq_some_iff.1 hy;subst hx2;clear hy;obtain⟨k,yv⟩:=x;have hg:=HG.out _ (List.mem_of_getElem? hx1);have hKK:(keysOf l)[i]?.getD []=k:=by simp[keysOf,hx1]
  have hbb9:=Nat.lt_of_lt_of_le hbb hb.size;dsimp only at hg c0 c1 c2 c3 hpg hkt;obtain⟨q1,q2,q3⟩:=hkt.lens;have hkn:kn=0:=by rw[←q1];rfl
  subst hkn;have HPN:=Hd (hpg.1);obtain⟨dl,hdl⟩:∃z,yv.data.length=z:=⟨_,rfl⟩
  have HDL:=Hd hdl;have hsd:=strOf_size yv.data;rw[hdl] at hg hsd;have hpc:pn≤pc∧pc≤maxLen:=⟨hpg.2.1,hpg.2.2.1⟩
  unfold maxLen at hpc;have CN:=fun W=>crneed_any (dl:Int) W
  clear hdl hpg;have hkl:=hg.1;have hsz:=strOf_size k;have HKK:=Hd hKK;have HA:=Hd hfit;have HRS:=Hd hrest;have HX1:=Hd hx1;obtain⟨BAD,hbad⟩:∃z,(!(fitAt lo hi true (keysOf l) i && valB yv))=z:=⟨_,rfl⟩
  have HBAD:=Hd hbad.symm;clear hbad hKK hfit hrest hx1;have v0:=(hb.cell (p:=⟨b,off+i*4,none⟩) hbb).trans c0;have v1:=(hb.cell (p:=⟨b,off+i*4+1,none⟩) hbb).trans c1;have v2:=(hb.cell (p:=⟨b,off+i*4+2,none⟩) hbb).trans c2;have v3:=(hb.cell (p:=⟨b,off+i*4+3,none⟩) hbb).trans c3;have f1:=hx.cell 0 1 rfl rfl;have f2:=hx.cell 0 2 rfl rfl;have hxc:=hx.alloc #[.string (strOf k),.string (strOf yv.data),.slice pa pn pc,.slice ka 0 kc] 145 (b:=wr.heap.size) rfl;have hbc:Below wr.heap.size wr (wr.alloc (.cells #[.string (strOf k),.string (strOf yv.data),.slice pa pn pc,.slice ka 0 kc] 145)):=Below.al (Below.refl _ _);obtain⟨wc,hwc⟩:∃x,wr.alloc (.cells #[.string (strOf k),.string (strOf yv.data),.slice pa pn pc,.slice ka 0 kc] 145)=x:=⟨_,rfl⟩
  rw[hwc] at hxc hbc;have HB:=Hd (below_via hb hbc);have HX:=Hd (hxc);have hwx:=hx.lt 0 rfl;have u1:=hxc.cell 1 1 rfl rfl;have u2:=hxc.cell 1 2 rfl rfl;have m0:=hxc.cell 0 0 rfl rfl;have m1:=hxc.cell 0 1 rfl rfl;have m2:=hxc.cell 0 2 rfl rfl;have m3:=hxc.cell 0 3 rfl rfl;have d0:decide ((i:Int)<(m:Int))=true:=by simp;omega
  have d0':decide (i<m)=true:=by simp;omega
  clear hxc c0 c1 c2 c3 hg q1;go_upto_region 9 with(fail)
  go_cut [13] (fun s wq=>s=.bool false∧wc=wq)
  case first=>
   by_cases h0:i=0
   ·have d5:((i:Int) == 0)=true:=by rw[h0];rfl
    clear h0;exact qb98405
   ·have d5:((i:Int) == 0)=false:=beq_eq_false_iff_ne.2 (by omega)
    clear h0;exact qb98405
  case rest=>
  obtain⟨rfl,rfl⟩:=hcut;go_upto_region 10 with(fail)
  go_cut [143] (fun s wq=>s=.bool BAD∧Below wc.heap.size wc wq)
  case first=>
   clear hwc v0 v1 v2 v3;obtain⟨E,hE⟩:∃z:Bool,(decide (k=[]))=z:=⟨_,rfl⟩
   have HE3:Hid ((E=true∧(strOf k).toList=[]∧(strOf k).toList.isEmpty=true)∨(E=false∧¬(strOf k).toList=[]∧(strOf k).toList.isEmpty=false)):=Hd (by
    rw[←hE]
    by_cases h:k=[]
    ·exact .inl ⟨decide_eq_true h,str_empty h⟩
    ·exact .inr ⟨decide_eq_false h,str_some h⟩)
   obtain⟨X1,hX1⟩:∃z:Bool,(false != E)=z:=⟨_,rfl⟩
   have HX1b:=Hd hX1;obtain⟨kl,hkl0⟩:∃x,k.length=x:=⟨_,rfl⟩
   rw[hkl0] at hsz hkl;obtain⟨X2,hX2⟩:∃z:Bool,(decide ((16:Int)<(kl:Int)))=z:=⟨_,rfl⟩
   have HX2:=Hd hX2;obtain⟨A11,hA11⟩:∃z:Bool,((X1 || X2))=z:=⟨_,rfl⟩
   have HA11:=Hd hA11;obtain⟨P,hP⟩:∃z:Bool,(decide ((0:Int)<(i:Int)))=z:=⟨_,rfl⟩
   have HPP:Hid ((P=true∧decide ((0:Int)<(i:Int))=true∧decide (0<i)=true)∨(P=false∧decide ((0:Int)<(i:Int))=false∧decide (0<i)=false)):=Hd (by
    exact qda1aad)
   obtain⟨kp,hkp⟩:∃z,(keysOf l)[i-1]?.getD []=z:=⟨_,rfl⟩
   obtain⟨ip,hip⟩:∃z,i-1=z:=⟨_,rfl⟩
   have HPT:Hid (P=true→IntKind.i64.wrap ((i:Int)-1)=(ip:Int)∧(0:Int)≤(ip:Int)∧(ip:Int)<(m:Int)∧∀W,Below wc.heap.size wc W→W.cell? ⟨b,off+ip*4,none⟩=some (.string (strOf kp))):=Hd (fun h=>by
    have h0:0<i:=by
     rw[←hP] at h;have:=of_decide_eq_true h;omega
    have e9:(i:Int)-1=(ip:Int):=by omega
    refine⟨by rw[e9];exact IntWalk.i64_in _ (by omega),by omega,by omega,fun W hW=>?_⟩;obtain⟨b7,off7,y7,_,_,_,_,_,_,e7,hbb7,hy7,_,_,_,_,_,c07,_,_,_⟩:=RNodeOn.cell HV.out (show ip<m by omega);cases e7;rw[cellsR_leaf] at hy7;exact q564ce6)
   obtain⟨X3,hX3⟩:∃z:Bool,(!decide (kp<k))=z:=⟨_,rfl⟩
   have HX3:Hid ((X3=true∧k=kp∧Op.bytesLess (strOf k).toList (strOf k).toList=false∧((strOf k).toList == (strOf k).toList)=true)∨(X3=true∧Op.bytesLess (strOf k).toList (strOf kp).toList=true∧((strOf k).toList == (strOf kp).toList)=false∧Op.bytesLess (strOf kp).toList (strOf k).toList=false∧((strOf kp).toList == (strOf k).toList)=false)∨(X3=false∧Op.bytesLess (strOf k).toList (strOf kp).toList=false∧((strOf k).toList == (strOf kp).toList)=false∧¬(strOf k).toList=(strOf kp).toList∧¬(strOf kp).toList=(strOf k).toList)):=Hd (by
    exact q759f51)
   obtain⟨Y3,hY3⟩:∃z:Bool,((P && X3))=z:=⟨_,rfl⟩
   have HY3:=Hd hY3;obtain⟨A27,hA27⟩:∃z:Bool,((A11 || Y3))=z:=⟨_,rfl⟩
   have HA27:=Hd hA27;obtain⟨X4,hX4⟩:∃z:Bool,(decide (k<lo))=z:=⟨_,rfl⟩
   have HX4:Hid ((X4=true∧Op.bytesLess (strOf k).toList (strOf lo).toList=true)∨(X4=false∧Op.bytesLess (strOf k).toList (strOf lo).toList=false)):=Hd (by
    exact q6568ee)
   obtain⟨A37,hA37⟩:∃z:Bool,((A27 || X4))=z:=⟨_,rfl⟩
   have HA37:=Hd hA37;obtain⟨Hn,hHn⟩:∃z:Bool,(!decide (hi=[]))=z:=⟨_,rfl⟩
   have HHn:Hid ((Hn=false∧(strOf hi).toList=[]∧(strOf hi).toList.isEmpty=true)∨(Hn=true∧¬(strOf hi).toList=[]∧(strOf hi).toList.isEmpty=false)):=Hd (by
    rw[←hHn]
    by_cases h:hi=[]
    ·exact .inl ⟨by simp[h],str_empty h⟩
    ·exact .inr ⟨by simp[h],str_some h⟩)
   obtain⟨X5,hX5⟩:∃z:Bool,(!decide (k<hi))=z:=⟨_,rfl⟩
   have HX5:Hid ((X5=true∧k=hi∧Op.bytesLess (strOf k).toList (strOf k).toList=false∧((strOf k).toList == (strOf k).toList)=true)∨(X5=false∧Op.bytesLess (strOf k).toList (strOf hi).toList=true∧((strOf k).toList == (strOf hi).toList)=false∧Op.bytesLess (strOf hi).toList (strOf k).toList=false∧((strOf hi).toList == (strOf k).toList)=false)∨(X5=true∧Op.bytesLess (strOf hi).toList (strOf k).toList=true∧((strOf hi).toList == (strOf k).toList)=false∧Op.bytesLess (strOf k).toList (strOf hi).toList=false∧((strOf k).toList == (strOf hi).toList)=false)):=Hd (by
    exact q530833)
   obtain⟨Y5,hY5⟩:∃z:Bool,((Hn && X5))=z:=⟨_,rfl⟩
   have HY5:=Hd hY5;obtain⟨A47,hA47⟩:∃z:Bool,((A37 || Y5))=z:=⟨_,rfl⟩
   have HA47:=Hd hA47;obtain⟨X6,hX6⟩:∃z:Bool,(decide ((400:Int)<(dl:Int)))=z:=⟨_,rfl⟩
   have HX6:=Hd hX6;obtain⟨A54,hA54⟩:∃z:Bool,((A47 || X6))=z:=⟨_,rfl⟩
   have HA54:=Hd hA54;have hfa:fitAt lo hi true (keysOf l) i=((false == E) && (!X2 && ((!P || !X3) && ((false || !X4) && (!Hn || !X5))))):=by
    have h9:=fitAt_any (lo:=lo) (hi:=hi) (leaf:=true) (F:=false) HKK.out hkp (by simp) hP;rw[hE,hkl0,hX2,hHn,hX5,hX3,hX4] at h9;exact h9
   obtain⟨Gp,hGp⟩:∃z:Bool,(decide ((0:Int)<(pn:Int)))=z:=⟨_,rfl⟩
   have HGp:=Hd hGp;obtain⟨nd,hnd⟩:∃z,needC (dl:Int)=z:=⟨_,rfl⟩
   rw[hnd] at CN;obtain⟨X7,hX7⟩:∃z:Bool,(decide (nd=0))=z:=⟨_,rfl⟩
   have HX7:Hid ((X7=true∧((nd:Int) == 0)=true)∨(X7=false∧((nd:Int) == 0)=false)):=Hd (by
    rw[←hX7]
    by_cases h:nd=0
    ·exact .inl ⟨decide_eq_true h,by simp[h]⟩
    ·exact .inr ⟨decide_eq_false h,beq_eq_false_iff_ne.2 (by omega)⟩)
   have hvb:valB yv=(!X6 && !(Gp && X7)):=by
    have h9:=valB_bools HDL.out HPN.out hnd;rw[hX6,hGp,hX7] at h9;exact h9
   have hbo:∀(E X2 P X3 X4 Hn X5 X6 Gp X7:Bool),(!(((false == E) && (!X2 && ((!P || !X3) && ((false || !X4) && (!Hn || !X5))))) && (!X6 && !(Gp && X7))))=(((((((false != E) || X2) || (P && X3)) || X4) || (Hn && X5)) || X6) || (Gp && X7)):=by decide
   have HBD:Hid (BAD=(A54 || (Gp && X7))):=Hd (by
    rw[HBAD.out,hfa,hvb,←hA54,←hA47,←hY5,←hA37,←hA27,←hY3,←hA11,←hX1];exact hbo _ _ _ _ _ _ _ _ _ _)
   clear hbo;clear hE hX1 hX2 hA11 hX3 hY3 hA27 hX4 hA37 hHn hX5 hY5 hA47 hX6 hA54 hfa hP hkp hip hGp hnd hX7 hvb;have T1:∀W,Below wc.heap.size wc W→W.cell? ⟨w.heap.size,1,none⟩=some (.bool true):=fun W hW=>(HX.out.step hW).cell 1 1 rfl rfl
   have T2:∀W,Below wc.heap.size wc W→W.cell? ⟨w.heap.size,2,none⟩=some (.slice (some ⟨b,off,none⟩) m c):=fun W hW=>(HX.out.step hW).cell 1 2 rfl rfl
   have M0:∀W,Below wc.heap.size wc W→W.cell? ⟨wr.heap.size,0,none⟩=some (.string (strOf k)):=fun W hW=>(HX.out.step hW).cell 0 0 rfl rfl
   have M1:∀W,Below wc.heap.size wc W→W.cell? ⟨wr.heap.size,1,none⟩=some (.string (strOf yv.data)):=fun W hW=>(HX.out.step hW).cell 0 1 rfl rfl
   have M2:∀W,Below wc.heap.size wc W→W.cell? ⟨wr.heap.size,2,none⟩=some (.slice pa pn pc):=fun W hW=>(HX.out.step hW).cell 0 2 rfl rfl
   have M3:∀W,Below wc.heap.size wc W→W.cell? ⟨wr.heap.size,3,none⟩=some (.slice ka 0 kc):=fun W hW=>(HX.out.step hW).cell 0 3 rfl rfl
   clear u1 u2 m0 m1 m2 m3 hx hb;refine wp_region_noPanic ?_;refine wp_region_held_drew (S:=(fun W=>Below wc.heap.size wc W)) (by kernel_rfl) (Below.dr (Below.refl _ _)) (fun hHeld=>?_);change wpAnyH _ _ _ _ _ 78 [false,false,false,false,false,false,false,false,false,false,false,false,false,false,false,false,false,false,false,false,false,false,false,false,false,false,false,false,false,false,false,false,false,false,false,false,false,false,false,false,false,false,false,false,false,false,false,false,false,false,false,false,false,false,false,false,false,false,false,false,false,false,false,false,false,false,false,false,false,false,false,false,false,false,false,false,false,false].toArray _ _;refine tka 0 (.bool false) ?_;refine tka 1 (.pointer (some ⟨wr.heap.size,0,none⟩)) ?_;refine tka 2 (.string (strOf k)) ?_;refine tka 3 (.bool E) ?_ (hy:=by as_aux_lemma=>exact Or.inl ⟨by rfl,by(intro W hW;(try dsimp only at hW);(try simp only[cond_true,cond_false]);rcases HE3.out with⟨rfl,e1,e2⟩|⟨rfl,e1,e2⟩;all_goals go_simp<;>(with_reducible rfl))⟩);refine tka 4 (.bool X1) ?_ (hy:=by as_aux_lemma=>exact Or.inl ⟨by rfl,by(intro W hW;(try dsimp only at hW);(try simp only[cond_true,cond_false]);obtain rfl:=HX1b.out;cases E;all_goals go_simp<;>(with_reducible rfl))⟩);refine tka 5 (.bool X1) ?_;refine tkb X1 6 (bif X1 then undef else .pointer (some ⟨wr.heap.size,0,none⟩)) ?_;refine tkb X1 7 (bif X1 then undef else .string (strOf k)) ?_;refine tkb X1 8 (bif X1 then undef else .int .i64 (kl:Int)) ?_;refine tka 9 (bif X1 then undef else .bool X2) ?_ (hy:=by as_aux_lemma=>(cases X1 with|true=>exact Or.inr ⟨by rfl,rfl⟩|false=>exact Or.inl ⟨by rfl,by(intro W hW;(try dsimp only at hW);(try simp only[cond_false]);obtain rfl:=HX2.out;go_simp<;>(with_reducible rfl))⟩));refine tka 10 (.bool A11) ?_ (hy:=by as_aux_lemma=>exact Or.inl ⟨by rfl,by(intro W hW;(try dsimp only at hW);(try simp only[cond_true,cond_false]);obtain rfl:=HA11.out;cases X1;all_goals go_simp<;>(with_reducible rfl))⟩);refine tka 11 (.bool A11) ?_;refine tkb A11 12 (bif A11 then undef else .int .i64 (i:Int)) ?_;refine tka 13 (bif A11 then undef else .bool P) ?_ (hy:=by as_aux_lemma=>(cases A11 with|true=>exact Or.inr ⟨by rfl,rfl⟩|false=>exact Or.inl ⟨by rfl,by(intro W hW;(try dsimp only at hW);(try simp only[cond_false]);rcases HPP.out with⟨rfl,d5,d6⟩|⟨rfl,d5,d6⟩;all_goals go_simp<;>(with_reducible rfl))⟩));refine tkb A11 14 (bif A11 then undef else .bool P) ?_;refine tkc A11 P 15 (bif A11 then undef else (bif P then .pointer (some ⟨wr.heap.size,0,none⟩) else undef)) ?_;refine tkc A11 P 16 (bif A11 then undef else (bif P then .string (strOf k) else undef)) ?_;refine tkc A11 P 17 (bif A11 then undef else (bif P then .pointer (some ⟨w.heap.size,2,none⟩) else undef)) ?_;refine tkc A11 P 18 (bif A11 then undef else (bif P then .slice (some ⟨b,off,none⟩) m c else undef)) ?_;refine tkc A11 P 19 (bif A11 then undef else (bif P then .int .i64 (i:Int) else undef)) ?_;refine tka 20 (bif A11 then undef else (bif P then .int .i64 (ip:Int) else undef)) ?_ (hy:=by as_aux_lemma=>(cases A11 with|true=>exact Or.inr ⟨by rfl,rfl⟩|false=>(cases P with|true=>exact Or.inl ⟨by rfl,by(intro W hW;(try dsimp only at hW);(try simp only[cond_true,cond_false]);obtain⟨p1,p2,p3,p4⟩:=HPT.out rfl;go_simp<;>(with_reducible rfl))⟩|false=>exact Or.inr ⟨by rfl,rfl⟩)));refine tka 21 (bif A11 then undef else (bif P then .pointer (some ⟨b,off+ip*4,none⟩) else undef)) ?_ (hy:=by as_aux_lemma=>(cases A11 with|true=>exact Or.inr ⟨by rfl,rfl⟩|false=>(cases P with|true=>exact Or.inl ⟨by rfl,by(intro W hW;(try dsimp only at hW);(try simp only[cond_true,cond_false]);obtain⟨p1,p2,p3,p4⟩:=HPT.out rfl;go_simp<;>(with_reducible rfl))⟩|false=>exact Or.inr ⟨by rfl,rfl⟩)));refine tkc A11 P 22 (bif A11 then undef else (bif P then .pointer (some ⟨b,off+ip*4,none⟩) else undef)) ?_;refine tka 23 (bif A11 then undef else (bif P then .string (strOf kp) else undef)) ?_ (hy:=by as_aux_lemma=>(cases A11 with|true=>exact Or.inr ⟨by rfl,rfl⟩|false=>(cases P with|true=>exact Or.inl ⟨by rfl,by(intro W hW;(try dsimp only at hW);(try simp only[cond_true,cond_false]);obtain⟨p1,p2,p3,p4⟩:=HPT.out rfl;have p5:=p4 _ hW;go_simp<;>(with_reducible rfl))⟩|false=>exact Or.inr ⟨by rfl,rfl⟩)));refine tka 24 (bif A11 then undef else (bif P then .bool X3 else undef)) ?_ (hy:=by as_aux_lemma=>(cases A11 with|true=>exact Or.inr ⟨by rfl,rfl⟩|false=>(cases P with|true=>exact Or.inl ⟨by rfl,by(intro W hW;(try dsimp only at hW);(try simp only[cond_true,cond_false]);rcases HX3.out with⟨rfl,rfl,p1,p2⟩|⟨rfl,p1,p2,p3,p4⟩|⟨rfl,p1,p2,p3,p4⟩;all_goals go_simp<;>(with_reducible rfl))⟩|false=>exact Or.inr ⟨by rfl,rfl⟩)));refine tka 25 (bif A11 then undef else .bool Y3) ?_ (hy:=by as_aux_lemma=>(cases A11 with|true=>exact Or.inr ⟨by rfl,rfl⟩|false=>exact Or.inl ⟨by rfl,by(intro W hW;(try dsimp only at hW);(try simp only[cond_false]);obtain rfl:=HY3.out;cases P;all_goals go_simp<;>(with_reducible rfl))⟩));refine tka 26 (.bool A27) ?_ (hy:=by as_aux_lemma=>exact Or.inl ⟨by rfl,by(intro W hW;(try dsimp only at hW);(try simp only[cond_true,cond_false]);obtain rfl:=HA27.out;cases A11;all_goals go_simp<;>(with_reducible rfl))⟩);refine tka 27 (.bool A27) ?_;refine tkb A27 28 (bif A27 then undef else .bool false) ?_;refine tkb A27 29 (bif A27 then undef else .bool true) ?_;refine tkb A27 30 (bif A27 then undef else .bool true) ?_;refine tkb A27 31 (bif A27 then undef else .pointer (some ⟨wr.heap.size,0,none⟩)) ?_;refine tkb A27 32 (bif A27 then undef else .string (strOf k)) ?_;refine tkb A27 33 (bif A27 then undef else .string (strOf lo)) ?_;refine tka 34 (bif A27 then undef else .bool X4) ?_ (hy:=by as_aux_lemma=>(cases A27 with|true=>exact Or.inr ⟨by rfl,rfl⟩|false=>exact Or.inl ⟨by rfl,by(intro W hW;(try dsimp only at hW);(try simp only[cond_false]);rcases HX4.out with⟨rfl,p1⟩|⟨rfl,p1⟩;all_goals go_simp<;>(with_reducible rfl))⟩));refine tkb A27 35 (bif A27 then undef else .bool X4) ?_;refine tka 36 (.bool A37) ?_ (hy:=by as_aux_lemma=>exact Or.inl ⟨by rfl,by(intro W hW;(try dsimp only at hW);(try simp only[cond_true,cond_false]);obtain rfl:=HA37.out;cases A27;all_goals go_simp<;>(with_reducible rfl))⟩);refine tka 37 (.bool A37) ?_;refine tkb A37 38 (bif A37 then undef else .string (strOf hi)) ?_;refine tka 39 (bif A37 then undef else .bool Hn) ?_ (hy:=by as_aux_lemma=>(cases A37 with|true=>exact Or.inr ⟨by rfl,rfl⟩|false=>exact Or.inl ⟨by rfl,by(intro W hW;(try dsimp only at hW);(try simp only[cond_false]);rcases HHn.out with⟨rfl,e1,e2⟩|⟨rfl,e1,e2⟩;all_goals go_simp<;>(with_reducible rfl))⟩));refine tkb A37 40 (bif A37 then undef else .bool Hn) ?_;refine tkc A37 Hn 41 (bif A37 then undef else (bif Hn then .pointer (some ⟨wr.heap.size,0,none⟩) else undef)) ?_;refine tkc A37 Hn 42 (bif A37 then undef else (bif Hn then .string (strOf k) else undef)) ?_;refine tkc A37 Hn 43 (bif A37 then undef else (bif Hn then .string (strOf hi) else undef)) ?_;refine tka 44 (bif A37 then undef else (bif Hn then .bool X5 else undef)) ?_ (hy:=by as_aux_lemma=>(cases A37 with|true=>exact Or.inr ⟨by rfl,rfl⟩|false=>(cases Hn with|true=>exact Or.inl ⟨by rfl,by(intro W hW;(try dsimp only at hW);(try simp only[cond_true,cond_false]);rcases HX5.out with⟨rfl,rfl,p1,p2⟩|⟨rfl,p1,p2,p3,p4⟩|⟨rfl,p1,p2,p3,p4⟩;all_goals go_simp<;>(with_reducible rfl))⟩|false=>exact Or.inr ⟨by rfl,rfl⟩)));refine tka 45 (bif A37 then undef else .bool Y5) ?_ (hy:=by as_aux_lemma=>(cases A37 with|true=>exact Or.inr ⟨by rfl,rfl⟩|false=>exact Or.inl ⟨by rfl,by(intro W hW;(try dsimp only at hW);(try simp only[cond_false]);obtain rfl:=HY5.out;cases Hn;all_goals go_simp<;>(with_reducible rfl))⟩));refine tka 46 (.bool A47) ?_ (hy:=by as_aux_lemma=>exact Or.inl ⟨by rfl,by(intro W hW;(try dsimp only at hW);(try simp only[cond_true,cond_false]);obtain rfl:=HA47.out;cases A37;all_goals go_simp<;>(with_reducible rfl))⟩);refine tka 47 (.bool A47) ?_;refine tkb A47 48 (bif A47 then undef else .pointer (some ⟨wr.heap.size,1,none⟩)) ?_;refine tkb A47 49 (bif A47 then undef else .pointer (some ⟨wr.heap.size,1,none⟩)) ?_;refine tkb A47 50 (bif A47 then undef else .string (strOf yv.data)) ?_;refine tkb A47 51 (bif A47 then undef else .int .i64 (dl:Int)) ?_;refine tka 52 (bif A47 then undef else .bool X6) ?_ (hy:=by as_aux_lemma=>(cases A47 with|true=>exact Or.inr ⟨by rfl,rfl⟩|false=>exact Or.inl ⟨by rfl,by(intro W hW;(try dsimp only at hW);(try simp only[cond_false]);obtain rfl:=HX6.out;go_simp<;>(with_reducible rfl))⟩));refine tka 53 (.bool A54) ?_ (hy:=by as_aux_lemma=>exact Or.inl ⟨by rfl,by(intro W hW;(try dsimp only at hW);(try simp only[cond_true,cond_false]);obtain rfl:=HA54.out;cases A47;all_goals go_simp<;>(with_reducible rfl))⟩);refine tka 54 (.bool A54) ?_;refine tkb A54 55 (bif A54 then undef else .pointer (some ⟨wr.heap.size,1,none⟩)) ?_;refine tkb A54 56 (bif A54 then undef else .pointer (some ⟨wr.heap.size,2,none⟩)) ?_;refine tkb A54 57 (bif A54 then undef else .slice pa pn pc) ?_;refine tkb A54 58 (bif A54 then undef else .int .i64 (pn:Int)) ?_;refine tka 59 (bif A54 then undef else .bool Gp) ?_ (hy:=by as_aux_lemma=>(cases A54 with|true=>exact Or.inr ⟨by rfl,rfl⟩|false=>exact Or.inl ⟨by rfl,by(intro W hW;(try dsimp only at hW);(try simp only[cond_false]);obtain rfl:=HGp.out;go_simp<;>(with_reducible rfl))⟩));refine tkb A54 60 (bif A54 then undef else .bool Gp) ?_;refine tkc A54 Gp 61 (bif A54 then undef else (bif Gp then .pointer (some ⟨wr.heap.size,1,none⟩) else undef)) ?_;refine tkc A54 Gp 62 (bif A54 then undef else (bif Gp then .pointer (some ⟨wr.heap.size,1,none⟩) else undef)) ?_;refine tkc A54 Gp 63 (bif A54 then undef else (bif Gp then .string (strOf yv.data) else undef)) ?_;refine tkc A54 Gp 64 (bif A54 then undef else (bif Gp then .int .i64 (dl:Int) else undef)) ?_;cases A54 with
   | true=>
    refine tka 65 undef ?_ (hy:=by as_aux_lemma=>exact Or.inr ⟨by rfl,rfl⟩);refine tka 66 undef ?_ (hy:=by as_aux_lemma=>exact Or.inr ⟨by rfl,rfl⟩);refine tka 67 undef ?_ (hy:=by as_aux_lemma=>exact Or.inr ⟨by rfl,rfl⟩);refine tka 68 (.bool true) ?_;refine tka 69 (.bool true) ?_;refine tka 70 undef ?_ (hy:=by as_aux_lemma=>exact Or.inr ⟨by rfl,rfl⟩);refine tka 71 undef ?_ (hy:=by as_aux_lemma=>exact Or.inr ⟨by rfl,rfl⟩);refine tka 72 undef ?_ (hy:=by as_aux_lemma=>exact Or.inr ⟨by rfl,rfl⟩);refine tka 73 undef ?_ (hy:=by as_aux_lemma=>exact Or.inr ⟨by rfl,rfl⟩);refine tka 74 undef ?_ (hy:=by as_aux_lemma=>exact Or.inr ⟨by rfl,rfl⟩);refine tka 75 undef ?_ (hy:=by as_aux_lemma=>exact Or.inr ⟨by rfl,rfl⟩);refine tka 76 undef ?_ (hy:=by as_aux_lemma=>exact Or.inr ⟨by rfl,rfl⟩);refine tka 77 (.bool true) ?_;exact q0fce22
   | false=>
   cases Gp with
   | false=>
    refine tka 65 undef ?_ (hy:=by as_aux_lemma=>exact Or.inr ⟨by rfl,rfl⟩);refine tka 66 undef ?_ (hy:=by as_aux_lemma=>exact Or.inr ⟨by rfl,rfl⟩);refine tka 67 (.bool false) ?_;refine tka 68 (.bool false) ?_;refine tka 69 (.bool false) ?_;refine tka 70 (.pointer (some ⟨w.heap.size,1,none⟩)) ?_;refine tka 71 (.bool true) ?_;refine tka 72 (.pointer (some ⟨wr.heap.size,3,none⟩)) ?_;refine tka 73 (.slice ka 0 kc) ?_;refine tka 74 (.int .i64 0) ?_;refine tka 75 (.bool true) ?_;refine tka 76 (.bool false) ?_;refine tka 77 (.bool false) ?_;exact q0fce22
   | true=>
   refine rdy 65 (fun K hK=>?_)
   (rw[if_pos (by rfl)];(try simp only[cond_true,cond_false]);go_wp2_with (go_at_call 89;refine(CN _).mono ?_;rintro e w9 ⟨rfl,rfl⟩))
   refine hK.out _ _ (by assumption) (fun hHeld=>?_);clear hK K
   (try simp only[List.setIfInBounds_toArray]);(try dsimp only[List.set_cons_zero,List.set_cons_succ])
   refine tka 66 (.bool X7) ?_ (hy:=by as_aux_lemma=>exact Or.inl ⟨by rfl,by(intro W hW;(try dsimp only at hW);(try simp only[cond_true,cond_false]);rcases HX7.out with⟨rfl,p1⟩|⟨rfl,p1⟩;all_goals go_simp<;>(with_reducible rfl))⟩);refine tka 67 (.bool X7) ?_;refine tka 68 (.bool X7) ?_;refine tka 69 (.bool X7) ?_;refine tkb X7 70 (bif X7 then undef else .pointer (some ⟨w.heap.size,1,none⟩)) ?_;refine tkb X7 71 (bif X7 then undef else .bool true) ?_;refine tkb X7 72 (bif X7 then undef else .pointer (some ⟨wr.heap.size,3,none⟩)) ?_;refine tkb X7 73 (bif X7 then undef else .slice ka 0 kc) ?_;refine tkb X7 74 (bif X7 then undef else .int .i64 0) ?_;refine tkb X7 75 (bif X7 then undef else .bool true) ?_;refine tkb X7 76 (bif X7 then undef else .bool false) ?_;refine tka 77 (.bool X7) ?_ (hy:=by as_aux_lemma=>exact Or.inl ⟨by rfl,by(intro W hW;(try dsimp only at hW);(try simp only[cond_true,cond_false]);cases X7;all_goals go_simp<;>(with_reducible rfl))⟩);exact q0fce22
  case rest=>
  rename_i wd;obtain⟨rfl,hbd⟩:=hcut;replace HB:=Hd (below_via HB.out hbd);replace HX:=Hd (HX.out.step hbd);clear u1 u2 m0 m1 m2 m3 hwc v0 v1 v2 v3;have u1:=HX.out.cell 1 1 rfl rfl;have u2:=HX.out.cell 1 2 rfl rfl;have m0:=HX.out.cell 0 0 rfl rfl;have m3:=HX.out.cell 0 3 rfl rfl;clear hbc hbd;cases BAD with
  | true=>
   have HR:Hid (R=none):=Hd (by
    have h9:=HBAD.out;rw[HD.out,HFT.out];cases hfa:fitAt lo hi true (keysOf l) i with
    | false=>rw[fitTo_bad (i:=i) (by omega) hfa];rfl
    | true=>
     rw[hfa] at h9;have hv:valB yv=false:=by simpa using h9.symm
     have h8:(l.all fun c=>valB c.2)=false:=by
      rw[List.all_eq_false];exact⟨_,List.mem_of_getElem? HX1.out,by simp[hv]⟩
     rw[h8,Bool.and_false];rfl)
   go_wp2_with fail;go_ret;exact⟨by rw[HR.out];rfl,HB.out⟩
  | false=>
  have HT2:Hid (fitTo lo hi true (keysOf l) (i+1)=true):=Hd (by
   have h9:=HBAD.out;rw[fitTo_succ,HA.out,Bool.true_and];simp at h9;exact h9.1)
  have HRS2:Hid (∀j c,j<i+1→l[j]? = some c→valB c.2=true):=Hd (fun j c hj hc=>by
   by_cases hj9:j<i
   ·exact HRS.out j c hj9 hc
   ·obtain rfl:j=i:=by omega
    have h9:=HBAD.out;rw[HX1.out] at hc;cases hc;simp at h9;exact h9.2)
  go_wp2_with fail;go_roundw
  case rel=>exact⟨i+1,0,by omega,by go_num,rfl,rfl,HT2.out,HRS2.out,HB.out,HX.out.sub (fun p hp=>List.mem_cons_of_mem _ hp)⟩
  case measure=>simp[intOf];omega
end Go.Proofs.YtpghlmcoajaiiaaGreatDoor
