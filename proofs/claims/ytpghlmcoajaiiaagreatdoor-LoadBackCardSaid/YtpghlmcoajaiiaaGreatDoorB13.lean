/- Texts that other texts of this claim lean on, one behind the other. -/
import Derived.Test.YtpghlmcoajaiiaaGreatDoorB1
import Derived.Test.YtpghlmcoajaiiaaGreatDoorB12b
import Derived.Test.YtpghlmcoajaiiaaGreatDoorB9
import Derived.Test.YtpghlmcoajaiiaaGreatDoorB10
import Derived.Test.YtpghlmcoajaiiaaGreatDoorB6
import Derived.Test.YtpghlmcoajaiiaaGreatDoorB4
import Derived.Deep.DeepCutAuto
import Derived.Deep.CutBlock
import Derived.Deep.QuietTactic
import Derived.BigQuiet
import Derived.Deep.RegionHeld3
import Derived.Test.YtpghlmcoajaiiaaGreatDoorB11
import Derived.Test.YtpghlmcoajaiiaaGreatDoorB3
import Derived.Test.YtpghlmcoajaiiaaGreatDoorB2
set_option maxHeartbeats 20000000
set_option maxRecDepth 100000
namespace Go.Proofs.YtpghlmcoajaiiaaGreatDoor
open Go.RowKit
theorem rnode_branch {n:Nat}
 (IH:∀{w:World} {cs:List Value} {t:Tr} {F:Nat→Prop},RNodeOn F n w cs t→Bnd n t→∀(lo hi:List UInt8),lo.length≤1000→hi.length≤1000 →
  Calls Tryz.prog 103 #[.agg cs.toArray,.string (strOf lo),.string (strOf hi),.bool false] w fun e w'=>e=.returned (.int .i64 (depI (depthT n t lo hi false)))∧Below w.heap.size w w')
 {F:Nat→Prop} {w:World} {cs:List Value} {p:Int} {l:List (List UInt8×Tr)} (h:RNodeOn F (n+1) w cs (.node p l)) (hb:Bnd (n+1) (.node p l)) (hn:n≤1000) (lo hi:List UInt8) (root:Bool) (hlo:lo.length≤1000) (hhi:hi.length≤1000) :
 Calls Tryz.prog 103 #[.agg cs.toArray,.string (strOf lo),.string (strOf hi),.bool root] w fun e w'=>e=.returned (.int .i64 (depI (depthT (n+1) (.node p l) lo hi root)))∧Below w.heap.size w w':=by
 have CS:=fun W (hW:Below w.heap.size w W)=>rsizes_any (h.below hW) hb
 have hSm:=hb.small;obtain⟨a,c,rfl,h1,_⟩:=h.at;obtain⟨g1,g2⟩:=hb;obtain⟨e1,e2,e3⟩:=h1.lens;obtain⟨m,hml⟩:∃m,cntT (.node p l)=m:=⟨_,rfl⟩
 have hlm:l.length=m:=hml;obtain⟨R,hR⟩:∃R,depthT (n+1) (.node p l) lo hi root=R:=⟨_,rfl⟩
 obtain⟨S,hS⟩:∃S,sizesT (.node p l)=S:=⟨_,rfl⟩
 have hsz:sizeB root (.node p l)=(decide (2≤m) && (decide (sumI S≤122) && (root || !decide (sumI S<30)))):=by
  unfold sizeB sumT lowT;rw[hml,←hS];rfl
 obtain⟨sm,hsm⟩:∃x,sumI S=x:=⟨_,rfl⟩
 rw[hS] at CS hSm;rw[hsm] at hsz;have hd:=depthT_node n p l lo hi root;rw[hR] at hd;have hfit:fitT lo hi (.node p l)=fitTo lo hi false (keysOf l) m:=by rw[←hlm];rfl
 obtain⟨R2,hR2⟩:∃R2,depK (fun t lo hi=>depthT n t lo hi false) lo hi 0 0 l=R2:=⟨_,rfl⟩
 rw[hR2] at hd;generalize sizeB root (.node p l)=SZ at *;generalize fitT lo hi (.node p l)=FT at *;rw[hR,show(Tr.node p l).page=p from rfl,show(Tr.node p l).isLeaf=false from rfl];rw[hml] at h1 e1 e2 CS ⊢;have HV:=Hd h1;have HSm:=Hd hSm;have HSM:=Hd hsm;have HSZ:=Hd hsz;have HD:=Hd hd;have HFT:=Hd hfit;have HL:=Hd hlm;have HG:=Hd g2;have hm9:m≤1000:=by omega
 have HR2:=Hd hR2;clear hR2;have HB0:=Hd ((Below.refl _ _).alloc (Nat.le_refl _) _:Below w.heap.size w (w.alloc (.cells #[.int .i64 p,.bool false,.slice a m c] 27)));have HX0:=Hd ((Boxes.nil w).alloc #[.int .i64 p,.bool false,.slice a m c] 27 (b:=w.heap.size) rfl);obtain⟨W1,hW1⟩:∃x,w.alloc (.cells #[.int .i64 p,.bool false,.slice a m c] 27)=x:=⟨_,rfl⟩
 rw[hW1] at HB0 HX0;have CS1:=CS _ HB0.out;have CS2:∀W,Below W1.heap.size W1 W→Calls Tryz.prog 126 #[.agg #[.int .i64 p,.bool false,.slice a m c]] W (SizesPost W S):=fun W hW=>CS W (below_via HB0.out hW)
 clear h h1 g1 g2 e1 hml hS hR hd hfit hsz hsm hSm hlm CS;have n0:=HX0.out.cell 0 0 rfl rfl;have n1:=HX0.out.cell 0 1 rfl rfl;have n2:=HX0.out.cell 0 2 rfl rfl;show Calls _ _ #[.agg #[.int .i64 p,.bool false,.slice a m c],.string (strOf lo),.string (strOf hi),.bool root] _ _;go_enter Tryz.func103,Tryz.ntmps103;go_wp2_with fail
 try rw[hW1]
 clear hW1;refine CS1.mono ?_;rintro e w2 ⟨v2,rfl,ho2,hb2⟩;obtain⟨sa,sc,rfl,hrow⟩:=Row.of_own ho2;have HB2:=Hd (below_via HB0.out hb2);have HX2:=Hd (HX0.out.step hb2);have CSum:∀W,Below w2.heap.size w2 W→Calls Tryz.prog 150 #[.slice sa S.length sc] W (fun e w'=>e=.returned (.int .i64 sm)∧W=w'):=fun W hW=>by
  have:=refSum_any _ _ _ _ W (Row.below (Nat.le_refl _) hW hrow) HSm.out
  rwa [HSM.out] at this
 have CLow:∀W,Below w2.heap.size w2 W→Calls Tryz.prog 151 #[.slice sa S.length sc] W (fun e w'=>e=.returned (.bool (decide (sm<30)))∧W=w'):=fun W hW=>by
  have:=refLow_any _ _ _ _ W (Row.below (Nat.le_refl _) hW hrow) HSm.out
  rwa [HSM.out] at this
 clear n0 n1 n2 ho2 hrow CS1 CS2;have n0:=HX2.out.cell 0 0 rfl rfl;have n1:=HX2.out.cell 0 1 rfl rfl;have n2:=HX2.out.cell 0 2 rfl rfl;clear hb2;go_upto_region 2 with(fail)
 go_cut [46] (fun s wq=>s=.bool (!SZ)∧w2=wq)
 case first=>
  by_cases h0:m=0
  ·have c0:((m:Int) == 0)=true:=by simp;omega
   have H0:=Hd h0;clear h0;have HE:Hid (SZ=false):=Hd (by rw[HSZ.out];simp[H0.out]);exact qb7fab6
  have c0:((m:Int) == 0)=false:=beq_eq_false_iff_ne.2 (by omega);have H0:=Hd h0;clear h0
  by_cases h1:m=1
  ·have c1:((m:Int) == 1)=true:=by simp;omega
   have H1:=Hd h1;clear h1;have HE:Hid (SZ=false):=Hd (by rw[HSZ.out];simp[H1.out]);exact qb7fab6
  have c1:((m:Int) == 1)=false:=beq_eq_false_iff_ne.2 (by omega);have H1:=Hd h1;clear h1
  by_cases h2:122<sm
  ·have c2:decide ((122:Int)<sm)=true:=by simp;omega
   have H2:=Hd h2;clear h2;have HE:Hid (SZ=false):=Hd (by rw[HSZ.out];have:=H2.out;simp;intros;omega);exact qb7fab6
  have c2:decide ((122:Int)<sm)=false:=by simp;omega
  have H2:=Hd h2;clear h2;cases root with
  | true=>
   have HE:Hid (SZ=true):=Hd (by rw[HSZ.out];have:=H0.out;have:=H1.out;have:=H2.out;simp;omega);exact qb7fab6
  | false=>
   by_cases h3:sm<30
   ·simp only[h3,decide_true] at CLow
    have H3:=Hd h3;clear h3;have HE:Hid (SZ=false):=Hd (by rw[HSZ.out];have:=H3.out;simp;intros;omega);exact qb7fab6
   simp only[h3,decide_false] at CLow;have H3:=Hd h3;clear h3;have HE:Hid (SZ=true):=Hd (by rw[HSZ.out];have:=H0.out;have:=H1.out;have:=H2.out;have:=H3.out;simp;omega);exact qb7fab6
 case rest=>
 obtain⟨rfl,rfl⟩:=hcut;cases SZ with
 | false=>
  have HR:Hid (R=none):=Hd (by rw[HD.out,Bool.and_false];rfl);exact qd1db3c
 | true=>
 simp only[Bool.not_true];go_wp2_with fail
 go_loopw [10,11] (fun s10 s11 wr=>∃i far:Nat,i≤m∧s11=.int .i64 i∧s10=.int .i64 far∧far≤1000∧fitTo lo hi false (keysOf l) i=true∧depK (fun t lo hi=>depthT n t lo hi false) lo hi i far (l.drop i)=R2∧Below w.heap.size w wr∧Boxes wr [(w.heap.size,[.int .i64 p,.bool false,.slice a m c])]) (fun _ s _=>m-(intOf s).toNat)
 case atStart=>exact⟨0,0,Nat.zero_le _,rfl,rfl,Nat.zero_le _,rfl,HR2.out,HB2.out,HX2.out⟩
 case round=>
  clear n0 n1 n2 CSum CLow HX2 HB2 HX0 HB0;obtain⟨i,far,hi',rfl,rfl,hfar,hfit,hrest,hb,hx⟩:=hrel
  by_cases hlt:i<m
  rotate_left
  ·obtain rfl:i=m:=by omega
   have HR:Hid (R=some far):=Hd (by
    rw[HD.out,HFT.out,hfit,if_pos (by rfl),←hrest,List.drop_of_length_le (by rw[HL.out];exact Nat.le_refl _)];rfl)
   exact qf09442
  obtain⟨b,off,y,pa,pn,pc,ka,kn,kc,rfl,hbb,hy,_,hpg,_,hkt,_,c0,c1,c2,c3⟩:=RNodeOn.cell HV.out hlt;rw[cellsR_node] at hy;obtain⟨x,hx1,hx2⟩:=Option.map_eq_some_iff.1 hy;subst hx2;clear hy;obtain⟨k,kid⟩:=x;have hg:=HG.out _ (List.mem_of_getElem? hx1);have hKK:(keysOf l)[i]?.getD []=k:=by simp[keysOf,hx1]
  have hbb9:=Nat.lt_of_lt_of_le hbb hb.size;dsimp only at hg c0 c1 c2 c3 hpg hkt;obtain⟨q1,q2,q3⟩:=hkt.lens;have hkn:kn=1:=by rw[←q1];rfl
  subst hkn;have hpn:pn=0:=hpg.1.symm;subst hpn;have HVN:Hid (valB ⟨[],[]⟩=true):=Hd (by decide);have hsd:=strOf_size ([]:List UInt8);have hpc:pc≤maxLen:=hpg.2.2.1;unfold maxLen at hpc;obtain⟨bk,okk,kid2,kcs,eka,hbk,hy2,_,hkid,hkc⟩:=TabR.at hkt (k:=0) (by omega);subst eka;obtain rfl:kid=kid2:=by simpa using hy2
  cases n with
  | zero=>exact hkid.elim
  | succ n=>
  obtain⟨ak,ck,rfl,_,_⟩:=hkid.at;obtain⟨km,hkm⟩:∃z,cntT kid=z:=⟨_,rfl⟩
  obtain⟨kp9,hkp9⟩:∃z,kid.page=z:=⟨_,rfl⟩
  obtain⟨kf,hkf⟩:∃z,kid.isLeaf=z:=⟨_,rfl⟩
  rw[hkm,hkp9,hkf] at hkid hkc;have e0:=(hb.cell (p:=⟨bk,okk,none⟩) hbk).trans (by simpa using hkc 0 _ rfl);have e1:=(hb.cell (p:=⟨bk,okk+1,none⟩) hbk).trans (by simpa using hkc 1 _ rfl);have e2:=(hb.cell (p:=⟨bk,okk+2,none⟩) hbk).trans (by simpa using hkc 2 _ rfl);have hbk9:=Nat.lt_of_lt_of_le hbk hb.size;have HKID:=Hd hkid;have HC1:=Hd hx1;have HDK:=Hd hrest;have HKB:=Hd hg.2;have hkk:k.length≤1000:=by have:=hg.1;omega
  clear hkid hkc hkm hkp9 hkf hy2 hkt hpg;have hkl:=hg.1;have hsz:=strOf_size k;have HKK:=Hd hKK;have HA:=Hd hfit;obtain⟨BAD,hbad⟩:∃z,(!(fitAt lo hi false (keysOf l) i && valB ⟨[],[]⟩))=z:=⟨_,rfl⟩
  have HBAD:=Hd hbad.symm;clear hbad hKK hfit hrest hx1;have v0:=(hb.cell (p:=⟨b,off+i*4,none⟩) hbb).trans c0;have v1:=(hb.cell (p:=⟨b,off+i*4+1,none⟩) hbb).trans c1;have v2:=(hb.cell (p:=⟨b,off+i*4+2,none⟩) hbb).trans c2;have v3:=(hb.cell (p:=⟨b,off+i*4+3,none⟩) hbb).trans c3;have f1:=hx.cell 0 1 rfl rfl;have f2:=hx.cell 0 2 rfl rfl;have hxc:=hx.alloc #[.string (strOf k),.string (strOf []),.slice pa 0 pc,.slice (some ⟨bk,okk,none⟩) 1 kc] 145 (b:=wr.heap.size) rfl;have hbc:Below wr.heap.size wr (wr.alloc (.cells #[.string (strOf k),.string (strOf []),.slice pa 0 pc,.slice (some ⟨bk,okk,none⟩) 1 kc] 145)):=Below.al (Below.refl _ _);obtain⟨wc,hwc⟩:∃x,wr.alloc (.cells #[.string (strOf k),.string (strOf []),.slice pa 0 pc,.slice (some ⟨bk,okk,none⟩) 1 kc] 145)=x:=⟨_,rfl⟩
  rw[hwc] at hxc hbc;have HB:=Hd (below_via hb hbc);have HX:=Hd (hxc);have hwx:=hx.lt 0 rfl;have u1:=hxc.cell 1 1 rfl rfl;have u2:=hxc.cell 1 2 rfl rfl;have m0:=hxc.cell 0 0 rfl rfl;have m1:=hxc.cell 0 1 rfl rfl;have m2:=hxc.cell 0 2 rfl rfl;have m3:=hxc.cell 0 3 rfl rfl;replace e0:=(hbc.cell (p:=⟨bk,okk,none⟩) hbk9).trans e0;replace e1:=(hbc.cell (p:=⟨bk,okk+1,none⟩) hbk9).trans e1;replace e2:=(hbc.cell (p:=⟨bk,okk+2,none⟩) hbk9).trans e2;have d0:decide ((i:Int)<(m:Int))=true:=by simp;omega
  have d0':decide (i<m)=true:=by simp;omega
  clear hxc c0 c1 c2 c3 hg q1;obtain⟨F,hF⟩:∃z:Bool,(i == 0)=z:=⟨_,rfl⟩
  have HF:=Hd hF;go_upto_region 9 with(fail)
  go_cut [13] (fun s wq=>s=.bool F∧wc=wq)
  case first=>
   by_cases h0:i=0
   ·obtain rfl:true=F:=by rw[←hF,h0];rfl
    have d5:((i:Int) == 0)=true:=by rw[h0];rfl
    clear h0 hF;exact qb98405
   ·obtain rfl:false=F:=by rw[←hF];exact(beq_eq_false_iff_ne.2 h0).symm
    have d5:((i:Int) == 0)=false:=beq_eq_false_iff_ne.2 (by omega);clear h0 hF;exact qb98405
  case rest=>
  obtain⟨rfl,rfl⟩:=hcut;clear hF;go_upto_region 10 with(fail)
  go_cut [143] (fun s wq=>s=.bool BAD∧Below wc.heap.size wc wq)
  case first=>
   clear hwc v0 v1 v2 v3;obtain⟨E,hE⟩:∃z:Bool,(decide (k=[]))=z:=⟨_,rfl⟩
   have HE3:Hid ((E=true∧(strOf k).toList=[]∧(strOf k).toList.isEmpty=true)∨(E=false∧¬(strOf k).toList=[]∧(strOf k).toList.isEmpty=false)):=Hd (by
    rw[←hE]
    by_cases h:k=[]
    ·exact .inl ⟨decide_eq_true h,str_empty h⟩
    ·exact .inr ⟨decide_eq_false h,str_some h⟩)
   obtain⟨X1,hX1⟩:∃z:Bool,(F != E)=z:=⟨_,rfl⟩
   have HX1b:=Hd hX1;obtain⟨kl,hkl0⟩:∃x,k.length=x:=⟨_,rfl⟩
   rw[hkl0] at hsz hkl;obtain⟨X2,hX2⟩:∃z:Bool,(decide ((16:Int)<(kl:Int)))=z:=⟨_,rfl⟩
   have HX2:=Hd hX2;obtain⟨A11,hA11⟩:∃z:Bool,((X1 || X2))=z:=⟨_,rfl⟩
   have HA11:=Hd hA11;obtain⟨P,hP⟩:∃z:Bool,(decide ((0:Int)<(i:Int)))=z:=⟨_,rfl⟩
   have HPP:Hid ((P=true∧decide ((0:Int)<(i:Int))=true∧decide (0<i)=true)∨(P=false∧decide ((0:Int)<(i:Int))=false∧decide (0<i)=false)):=Hd (by
    exact qda1aad)
   obtain⟨kp,hkp⟩:∃z,(keysOf l)[i-1]?.getD []=z:=⟨_,rfl⟩
   obtain⟨ip,hip⟩:∃z,i-1=z:=⟨_,rfl⟩
   have HPT:Hid (P=true→IntKind.i64.wrap ((i:Int)-1)=(ip:Int)∧(0:Int)≤(ip:Int)∧(ip:Int)<(m:Int)∧∀W,Below wc.heap.size wc W→W.cell? ⟨b,off+ip*4,none⟩=some (.string (strOf kp))):=Hd (fun h=>by
    have h0:0<i:=by
     rw[←hP] at h;have:=of_decide_eq_true h;omega
    have e9:(i:Int)-1=(ip:Int):=by omega
    refine⟨by rw[e9];exact IntWalk.i64_in _ (by omega),by omega,by omega,fun W hW=>?_⟩;obtain⟨b7,off7,y7,_,_,_,_,_,_,e7,hbb7,hy7,_,_,_,_,_,c07,_,_,_⟩:=RNodeOn.cell HV.out (show ip<m by omega);cases e7;rw[cellsR_node] at hy7;exact q564ce6)
   obtain⟨X3,hX3⟩:∃z:Bool,(!decide (kp<k))=z:=⟨_,rfl⟩
   have HX3:Hid ((X3=true∧k=kp∧Op.bytesLess (strOf k).toList (strOf k).toList=false∧((strOf k).toList == (strOf k).toList)=true)∨(X3=true∧Op.bytesLess (strOf k).toList (strOf kp).toList=true∧((strOf k).toList == (strOf kp).toList)=false∧Op.bytesLess (strOf kp).toList (strOf k).toList=false∧((strOf kp).toList == (strOf k).toList)=false)∨(X3=false∧Op.bytesLess (strOf k).toList (strOf kp).toList=false∧((strOf k).toList == (strOf kp).toList)=false∧¬(strOf k).toList=(strOf kp).toList∧¬(strOf kp).toList=(strOf k).toList)):=Hd (by
    exact q759f51)
   obtain⟨Y3,hY3⟩:∃z:Bool,((P && X3))=z:=⟨_,rfl⟩
   have HY3:=Hd hY3;obtain⟨A27,hA27⟩:∃z:Bool,((A11 || Y3))=z:=⟨_,rfl⟩
   have HA27:=Hd hA27;obtain⟨NF,hNF⟩:∃z:Bool,(!F)=z:=⟨_,rfl⟩
   have HNF:=Hd hNF;obtain⟨X4,hX4⟩:∃z:Bool,(decide (k<lo))=z:=⟨_,rfl⟩
   have HX4:Hid ((X4=true∧Op.bytesLess (strOf k).toList (strOf lo).toList=true)∨(X4=false∧Op.bytesLess (strOf k).toList (strOf lo).toList=false)):=Hd (by
    exact q6568ee)
   obtain⟨Y4,hY4⟩:∃z:Bool,((NF && X4))=z:=⟨_,rfl⟩
   have HY4:=Hd hY4;obtain⟨A37,hA37⟩:∃z:Bool,((A27 || Y4))=z:=⟨_,rfl⟩
   have HA37:=Hd hA37;obtain⟨Hn,hHn⟩:∃z:Bool,(!decide (hi=[]))=z:=⟨_,rfl⟩
   have HHn:Hid ((Hn=false∧(strOf hi).toList=[]∧(strOf hi).toList.isEmpty=true)∨(Hn=true∧¬(strOf hi).toList=[]∧(strOf hi).toList.isEmpty=false)):=Hd (by
    rw[←hHn]
    by_cases h:hi=[]
    ·exact .inl ⟨by simp[h],str_empty h⟩
    ·exact .inr ⟨by simp[h],str_some h⟩)
   obtain⟨X5,hX5⟩:∃z:Bool,(!decide (k<hi))=z:=⟨_,rfl⟩
   have HX5:Hid ((X5=true∧k=hi∧Op.bytesLess (strOf k).toList (strOf k).toList=false∧((strOf k).toList == (strOf k).toList)=true)∨(X5=false∧Op.bytesLess (strOf k).toList (strOf hi).toList=true∧((strOf k).toList == (strOf hi).toList)=false∧Op.bytesLess (strOf hi).toList (strOf k).toList=false∧((strOf hi).toList == (strOf k).toList)=false)∨(X5=true∧Op.bytesLess (strOf hi).toList (strOf k).toList=true∧((strOf hi).toList == (strOf k).toList)=false∧Op.bytesLess (strOf k).toList (strOf hi).toList=false∧((strOf k).toList == (strOf hi).toList)=false)):=Hd (by
    exact q530833)
   obtain⟨Y5,hY5⟩:∃z:Bool,((Hn && X5))=z:=⟨_,rfl⟩
   have HY5:=Hd hY5;obtain⟨A47,hA47⟩:∃z:Bool,((A37 || Y5))=z:=⟨_,rfl⟩
   have HA47:=Hd hA47;obtain⟨X6,hX6⟩:∃z:Bool,(decide ((400:Int)<(0:Int)))=z:=⟨_,rfl⟩
   have HX6:=Hd hX6;obtain⟨A54,hA54⟩:∃z:Bool,((A47 || X6))=z:=⟨_,rfl⟩
   have HA54:=Hd hA54;have hfa:fitAt lo hi false (keysOf l) i=((F == E) && (!X2 && ((!P || !X3) && ((F || !X4) && (!Hn || !X5))))):=by
    have h9:=fitAt_any (lo:=lo) (hi:=hi) (leaf:=false) (F:=F) HKK.out hkp (by rw[Bool.not_false,Bool.and_true];exact HF.out) hP;rw[hE,hkl0,hX2,hHn,hX5,hX3,hX4] at h9;exact h9
   have hx6:X6=false:=by rw[←hX6];decide
   have hbo:∀(E F X2 P X3 X4 Hn X5:Bool),(!(((F == E) && (!X2 && ((!P || !X3) && ((F || !X4) && (!Hn || !X5))))) && true))=((((((F != E) || X2) || (P && X3)) || (!F && X4)) || (Hn && X5)) || false):=by decide
   have HBD:Hid (BAD=A54):=Hd (by
    rw[HBAD.out,hfa,HVN.out,←hA54,hx6,←hA47,←hY5,←hA37,←hY4,←hNF,←hA27,←hY3,←hA11,←hX1];exact hbo _ _ _ _ _ _ _ _)
   clear hbo;clear hE hX1 hX2 hA11 hX3 hY3 hA27 hX4 hA37 hHn hX5 hY5 hA47 hX6 hA54 hfa hP hkp hip hx6 hNF hY4;have T1:∀W,Below wc.heap.size wc W→W.cell? ⟨w.heap.size,1,none⟩=some (.bool false):=fun W hW=>(HX.out.step hW).cell 1 1 rfl rfl
   have T2:∀W,Below wc.heap.size wc W→W.cell? ⟨w.heap.size,2,none⟩=some (.slice (some ⟨b,off,none⟩) m c):=fun W hW=>(HX.out.step hW).cell 1 2 rfl rfl
   have M0:∀W,Below wc.heap.size wc W→W.cell? ⟨wr.heap.size,0,none⟩=some (.string (strOf k)):=fun W hW=>(HX.out.step hW).cell 0 0 rfl rfl
   have M1:∀W,Below wc.heap.size wc W→W.cell? ⟨wr.heap.size,1,none⟩=some (.string (strOf [])):=fun W hW=>(HX.out.step hW).cell 0 1 rfl rfl
   have M2:∀W,Below wc.heap.size wc W→W.cell? ⟨wr.heap.size,2,none⟩=some (.slice pa 0 pc):=fun W hW=>(HX.out.step hW).cell 0 2 rfl rfl
   have M3:∀W,Below wc.heap.size wc W→W.cell? ⟨wr.heap.size,3,none⟩=some (.slice (some ⟨bk,okk,none⟩) 1 kc):=fun W hW=>(HX.out.step hW).cell 0 3 rfl rfl
   clear u1 u2 m0 m1 m2 m3 hx hb;refine wp_region_noPanic ?_;refine wp_region_held_drew (S:=(fun W=>Below wc.heap.size wc W)) (by kernel_rfl) (Below.dr (Below.refl _ _)) (fun hHeld=>?_);change wpAnyH _ _ _ _ _ 78 [false,false,false,false,false,false,false,false,false,false,false,false,false,false,false,false,false,false,false,false,false,false,false,false,false,false,false,false,false,false,false,false,false,false,false,false,false,false,false,false,false,false,false,false,false,false,false,false,false,false,false,false,false,false,false,false,false,false,false,false,false,false,false,false,false,false,false,false,false,false,false,false,false,false,false,false,false,false].toArray _ _;refine tka 0 (.bool F) ?_;refine tka 1 (.pointer (some ⟨wr.heap.size,0,none⟩)) ?_;refine tka 2 (.string (strOf k)) ?_;refine tka 3 (.bool E) ?_ (hy:=by as_aux_lemma=>exact Or.inl ⟨by rfl,by(intro W hW;(try dsimp only at hW);(try simp only[cond_true,cond_false]);rcases HE3.out with⟨rfl,e1,e2⟩|⟨rfl,e1,e2⟩;all_goals go_simp<;>(with_reducible rfl))⟩);refine tka 4 (.bool X1) ?_ (hy:=by as_aux_lemma=>exact Or.inl ⟨by rfl,by(intro W hW;(try dsimp only at hW);(try simp only[cond_true,cond_false]);obtain rfl:=HX1b.out;cases E;all_goals go_simp<;>(with_reducible rfl))⟩);refine tka 5 (.bool X1) ?_;refine tkb X1 6 (bif X1 then undef else .pointer (some ⟨wr.heap.size,0,none⟩)) ?_;refine tkb X1 7 (bif X1 then undef else .string (strOf k)) ?_;refine tkb X1 8 (bif X1 then undef else .int .i64 (kl:Int)) ?_;refine tka 9 (bif X1 then undef else .bool X2) ?_ (hy:=by as_aux_lemma=>(cases X1 with|true=>exact Or.inr ⟨by rfl,rfl⟩|false=>exact Or.inl ⟨by rfl,by(intro W hW;(try dsimp only at hW);(try simp only[cond_false]);obtain rfl:=HX2.out;go_simp<;>(with_reducible rfl))⟩));refine tka 10 (.bool A11) ?_ (hy:=by as_aux_lemma=>exact Or.inl ⟨by rfl,by(intro W hW;(try dsimp only at hW);(try simp only[cond_true,cond_false]);obtain rfl:=HA11.out;cases X1;all_goals go_simp<;>(with_reducible rfl))⟩);refine tka 11 (.bool A11) ?_;refine tkb A11 12 (bif A11 then undef else .int .i64 (i:Int)) ?_;refine tka 13 (bif A11 then undef else .bool P) ?_ (hy:=by as_aux_lemma=>(cases A11 with|true=>exact Or.inr ⟨by rfl,rfl⟩|false=>exact Or.inl ⟨by rfl,by(intro W hW;(try dsimp only at hW);(try simp only[cond_false]);rcases HPP.out with⟨rfl,d5,d6⟩|⟨rfl,d5,d6⟩;all_goals go_simp<;>(with_reducible rfl))⟩));refine tkb A11 14 (bif A11 then undef else .bool P) ?_;refine tkc A11 P 15 (bif A11 then undef else (bif P then .pointer (some ⟨wr.heap.size,0,none⟩) else undef)) ?_;refine tkc A11 P 16 (bif A11 then undef else (bif P then .string (strOf k) else undef)) ?_;refine tkc A11 P 17 (bif A11 then undef else (bif P then .pointer (some ⟨w.heap.size,2,none⟩) else undef)) ?_;refine tkc A11 P 18 (bif A11 then undef else (bif P then .slice (some ⟨b,off,none⟩) m c else undef)) ?_;refine tkc A11 P 19 (bif A11 then undef else (bif P then .int .i64 (i:Int) else undef)) ?_;refine tka 20 (bif A11 then undef else (bif P then .int .i64 (ip:Int) else undef)) ?_ (hy:=by as_aux_lemma=>(cases A11 with|true=>exact Or.inr ⟨by rfl,rfl⟩|false=>(cases P with|true=>exact Or.inl ⟨by rfl,by(intro W hW;(try dsimp only at hW);(try simp only[cond_true,cond_false]);obtain⟨p1,p2,p3,p4⟩:=HPT.out rfl;go_simp<;>(with_reducible rfl))⟩|false=>exact Or.inr ⟨by rfl,rfl⟩)));refine tka 21 (bif A11 then undef else (bif P then .pointer (some ⟨b,off+ip*4,none⟩) else undef)) ?_ (hy:=by as_aux_lemma=>(cases A11 with|true=>exact Or.inr ⟨by rfl,rfl⟩|false=>(cases P with|true=>exact Or.inl ⟨by rfl,by(intro W hW;(try dsimp only at hW);(try simp only[cond_true,cond_false]);obtain⟨p1,p2,p3,p4⟩:=HPT.out rfl;go_simp<;>(with_reducible rfl))⟩|false=>exact Or.inr ⟨by rfl,rfl⟩)));refine tkc A11 P 22 (bif A11 then undef else (bif P then .pointer (some ⟨b,off+ip*4,none⟩) else undef)) ?_;refine tka 23 (bif A11 then undef else (bif P then .string (strOf kp) else undef)) ?_ (hy:=by as_aux_lemma=>(cases A11 with|true=>exact Or.inr ⟨by rfl,rfl⟩|false=>(cases P with|true=>exact Or.inl ⟨by rfl,by(intro W hW;(try dsimp only at hW);(try simp only[cond_true,cond_false]);obtain⟨p1,p2,p3,p4⟩:=HPT.out rfl;have p5:=p4 _ hW;go_simp<;>(with_reducible rfl))⟩|false=>exact Or.inr ⟨by rfl,rfl⟩)));refine tka 24 (bif A11 then undef else (bif P then .bool X3 else undef)) ?_ (hy:=by as_aux_lemma=>(cases A11 with|true=>exact Or.inr ⟨by rfl,rfl⟩|false=>(cases P with|true=>exact Or.inl ⟨by rfl,by(intro W hW;(try dsimp only at hW);(try simp only[cond_true,cond_false]);rcases HX3.out with⟨rfl,rfl,p1,p2⟩|⟨rfl,p1,p2,p3,p4⟩|⟨rfl,p1,p2,p3,p4⟩;all_goals go_simp<;>(with_reducible rfl))⟩|false=>exact Or.inr ⟨by rfl,rfl⟩)));refine tka 25 (bif A11 then undef else .bool Y3) ?_ (hy:=by as_aux_lemma=>(cases A11 with|true=>exact Or.inr ⟨by rfl,rfl⟩|false=>exact Or.inl ⟨by rfl,by(intro W hW;(try dsimp only at hW);(try simp only[cond_false]);obtain rfl:=HY3.out;cases P;all_goals go_simp<;>(with_reducible rfl))⟩));refine tka 26 (.bool A27) ?_ (hy:=by as_aux_lemma=>exact Or.inl ⟨by rfl,by(intro W hW;(try dsimp only at hW);(try simp only[cond_true,cond_false]);obtain rfl:=HA27.out;cases A11;all_goals go_simp<;>(with_reducible rfl))⟩);refine tka 27 (.bool A27) ?_;refine tkb A27 28 (bif A27 then undef else .bool F) ?_;refine tka 29 (bif A27 then undef else .bool NF) ?_ (hy:=by as_aux_lemma=>(cases A27 with|true=>exact Or.inr ⟨by rfl,rfl⟩|false=>exact Or.inl ⟨by rfl,by(intro W hW;(try dsimp only at hW);(try simp only[cond_false]);obtain rfl:=HNF.out;cases F;all_goals go_simp<;>(with_reducible rfl))⟩));refine tkb A27 30 (bif A27 then undef else .bool NF) ?_;refine tkc A27 NF 31 (bif A27 then undef else (bif NF then .pointer (some ⟨wr.heap.size,0,none⟩) else undef)) ?_;refine tkc A27 NF 32 (bif A27 then undef else (bif NF then .string (strOf k) else undef)) ?_;refine tkc A27 NF 33 (bif A27 then undef else (bif NF then .string (strOf lo) else undef)) ?_;refine tka 34 (bif A27 then undef else (bif NF then .bool X4 else undef)) ?_ (hy:=by as_aux_lemma=>(cases A27 with|true=>exact Or.inr ⟨by rfl,rfl⟩|false=>(cases NF with|true=>exact Or.inl ⟨by rfl,by(intro W hW;(try dsimp only at hW);(try simp only[cond_true,cond_false]);rcases HX4.out with⟨rfl,p1⟩|⟨rfl,p1⟩;all_goals go_simp<;>(with_reducible rfl))⟩|false=>exact Or.inr ⟨by rfl,rfl⟩)));refine tka 35 (bif A27 then undef else .bool Y4) ?_ (hy:=by as_aux_lemma=>(cases A27 with|true=>exact Or.inr ⟨by rfl,rfl⟩|false=>exact Or.inl ⟨by rfl,by(intro W hW;(try dsimp only at hW);(try simp only[cond_false]);obtain rfl:=HY4.out;cases NF;all_goals go_simp<;>(with_reducible rfl))⟩));refine tka 36 (.bool A37) ?_ (hy:=by as_aux_lemma=>exact Or.inl ⟨by rfl,by(intro W hW;(try dsimp only at hW);(try simp only[cond_true,cond_false]);obtain rfl:=HA37.out;cases A27;all_goals go_simp<;>(with_reducible rfl))⟩);refine tka 37 (.bool A37) ?_;refine tkb A37 38 (bif A37 then undef else .string (strOf hi)) ?_;refine tka 39 (bif A37 then undef else .bool Hn) ?_ (hy:=by as_aux_lemma=>(cases A37 with|true=>exact Or.inr ⟨by rfl,rfl⟩|false=>exact Or.inl ⟨by rfl,by(intro W hW;(try dsimp only at hW);(try simp only[cond_false]);rcases HHn.out with⟨rfl,e1,e2⟩|⟨rfl,e1,e2⟩;all_goals go_simp<;>(with_reducible rfl))⟩));refine tkb A37 40 (bif A37 then undef else .bool Hn) ?_;refine tkc A37 Hn 41 (bif A37 then undef else (bif Hn then .pointer (some ⟨wr.heap.size,0,none⟩) else undef)) ?_;refine tkc A37 Hn 42 (bif A37 then undef else (bif Hn then .string (strOf k) else undef)) ?_;refine tkc A37 Hn 43 (bif A37 then undef else (bif Hn then .string (strOf hi) else undef)) ?_;refine tka 44 (bif A37 then undef else (bif Hn then .bool X5 else undef)) ?_ (hy:=by as_aux_lemma=>(cases A37 with|true=>exact Or.inr ⟨by rfl,rfl⟩|false=>(cases Hn with|true=>exact Or.inl ⟨by rfl,by(intro W hW;(try dsimp only at hW);(try simp only[cond_true,cond_false]);rcases HX5.out with⟨rfl,rfl,p1,p2⟩|⟨rfl,p1,p2,p3,p4⟩|⟨rfl,p1,p2,p3,p4⟩;all_goals go_simp<;>(with_reducible rfl))⟩|false=>exact Or.inr ⟨by rfl,rfl⟩)));refine tka 45 (bif A37 then undef else .bool Y5) ?_ (hy:=by as_aux_lemma=>(cases A37 with|true=>exact Or.inr ⟨by rfl,rfl⟩|false=>exact Or.inl ⟨by rfl,by(intro W hW;(try dsimp only at hW);(try simp only[cond_false]);obtain rfl:=HY5.out;cases Hn;all_goals go_simp<;>(with_reducible rfl))⟩));refine tka 46 (.bool A47) ?_ (hy:=by as_aux_lemma=>exact Or.inl ⟨by rfl,by(intro W hW;(try dsimp only at hW);(try simp only[cond_true,cond_false]);obtain rfl:=HA47.out;cases A37;all_goals go_simp<;>(with_reducible rfl))⟩);refine tka 47 (.bool A47) ?_;refine tkb A47 48 (bif A47 then undef else .pointer (some ⟨wr.heap.size,1,none⟩)) ?_;refine tkb A47 49 (bif A47 then undef else .pointer (some ⟨wr.heap.size,1,none⟩)) ?_;refine tkb A47 50 (bif A47 then undef else .string (strOf [])) ?_;refine tkb A47 51 (bif A47 then undef else .int .i64 0) ?_;refine tka 52 (bif A47 then undef else .bool X6) ?_ (hy:=by as_aux_lemma=>(cases A47 with|true=>exact Or.inr ⟨by rfl,rfl⟩|false=>exact Or.inl ⟨by rfl,by(intro W hW;(try dsimp only at hW);(try simp only[cond_false]);obtain rfl:=HX6.out;go_simp<;>(with_reducible rfl))⟩));refine tka 53 (.bool A54) ?_ (hy:=by as_aux_lemma=>exact Or.inl ⟨by rfl,by(intro W hW;(try dsimp only at hW);(try simp only[cond_true,cond_false]);obtain rfl:=HA54.out;cases A47;all_goals go_simp<;>(with_reducible rfl))⟩);refine tka 54 (.bool A54) ?_;refine tkb A54 55 (bif A54 then undef else .pointer (some ⟨wr.heap.size,1,none⟩)) ?_;refine tkb A54 56 (bif A54 then undef else .pointer (some ⟨wr.heap.size,2,none⟩)) ?_;refine tkb A54 57 (bif A54 then undef else .slice pa 0 pc) ?_;refine tkb A54 58 (bif A54 then undef else .int .i64 (0:Int)) ?_;refine tkb A54 59 (bif A54 then undef else .bool false) ?_;refine tkb A54 60 (bif A54 then undef else .bool false) ?_;refine tka 61 undef ?_ (hy:=by as_aux_lemma=>(cases A54 with|true=>exact Or.inr ⟨by rfl,rfl⟩|false=>exact Or.inr ⟨by rfl,rfl⟩));refine tka 62 undef ?_ (hy:=by as_aux_lemma=>(cases A54 with|true=>exact Or.inr ⟨by rfl,rfl⟩|false=>exact Or.inr ⟨by rfl,rfl⟩));refine tka 63 undef ?_ (hy:=by as_aux_lemma=>(cases A54 with|true=>exact Or.inr ⟨by rfl,rfl⟩|false=>exact Or.inr ⟨by rfl,rfl⟩));refine tka 64 undef ?_ (hy:=by as_aux_lemma=>(cases A54 with|true=>exact Or.inr ⟨by rfl,rfl⟩|false=>exact Or.inr ⟨by rfl,rfl⟩));refine tka 65 undef ?_ (hy:=by as_aux_lemma=>(cases A54 with|true=>exact Or.inr ⟨by rfl,rfl⟩|false=>exact Or.inr ⟨by rfl,rfl⟩));refine tka 66 undef ?_ (hy:=by as_aux_lemma=>(cases A54 with|true=>exact Or.inr ⟨by rfl,rfl⟩|false=>exact Or.inr ⟨by rfl,rfl⟩));refine tkb A54 67 (bif A54 then undef else .bool false) ?_;refine tka 68 (.bool A54) ?_ (hy:=by as_aux_lemma=>exact Or.inl ⟨by rfl,by(intro W hW;(try dsimp only at hW);(try simp only[cond_true,cond_false]);cases A54;all_goals go_simp<;>(with_reducible rfl))⟩);refine tka 69 (.bool A54) ?_;refine tkb A54 70 (bif A54 then undef else .pointer (some ⟨w.heap.size,1,none⟩)) ?_;refine tkb A54 71 (bif A54 then undef else .bool false) ?_;refine tkb A54 72 (bif A54 then undef else .pointer (some ⟨wr.heap.size,3,none⟩)) ?_;refine tkb A54 73 (bif A54 then undef else .slice (some ⟨bk,okk,none⟩) 1 kc) ?_;refine tkb A54 74 (bif A54 then undef else .int .i64 1) ?_;refine tkb A54 75 (bif A54 then undef else .bool false) ?_;refine tkb A54 76 (bif A54 then undef else .bool false) ?_;refine tka 77 (.bool A54) ?_ (hy:=by as_aux_lemma=>exact Or.inl ⟨by rfl,by(intro W hW;(try dsimp only at hW);(try simp only[cond_true,cond_false]);cases A54;all_goals go_simp<;>(with_reducible rfl))⟩);exact q0fce22
  case rest=>
  rename_i wd;obtain⟨rfl,hbd⟩:=hcut;replace HB:=Hd (below_via HB.out hbd);replace HX:=Hd (HX.out.step hbd);clear u1 u2 m0 m1 m2 m3 hwc v0 v1 v2 v3;have u1:=HX.out.cell 1 1 rfl rfl;have u2:=HX.out.cell 1 2 rfl rfl;have m0:=HX.out.cell 0 0 rfl rfl;have m3:=HX.out.cell 0 3 rfl rfl;have hbk8:=Nat.lt_of_lt_of_le hbk9 hbc.size;replace e0:=(hbd.cell (p:=⟨bk,okk,none⟩) hbk8).trans e0;replace e1:=(hbd.cell (p:=⟨bk,okk+1,none⟩) hbk8).trans e1;replace e2:=(hbd.cell (p:=⟨bk,okk+2,none⟩) hbk8).trans e2;clear hbk8 hbk9 hbk;clear hbc hbd;cases BAD with
  | true=>
   have HR:Hid (R=none):=Hd (by
    have h9:=HBAD.out;rw[HD.out,HFT.out];cases hfa:fitAt lo hi false (keysOf l) i with
    | false=>rw[fitTo_bad (i:=i) (by omega) hfa];rfl
    | true=>
     rw[hfa] at h9;rw[HVN.out] at h9;cases h9)
   go_wp2_with fail;go_ret;exact⟨by rw[HR.out];rfl,HB.out⟩
  | false=>
  have HT2:Hid (fitTo lo hi false (keysOf l) (i+1)=true):=Hd (by
   have h9:=HBAD.out;rw[fitTo_succ,HA.out,Bool.true_and];simp at h9;exact h9.1)
  obtain⟨KL,hKL⟩:∃z,(if i=0 then lo else k)=z:=⟨_,rfl⟩
  obtain⟨HI,hHI⟩:∃z,nextH hi (l.drop (i+1))=z:=⟨_,rfl⟩
  have hKL9:KL.length≤1000:=by rw[←hKL];split<;>assumption
  have HKL9:=Hd hKL;have HHI9:=Hd hHI;clear hKL hHI hb hx
  go_upto_if 148 with(fail)
  go_cut [14] (fun s wq=>s=.string (strOf KL)∧wc=wq)
  case first=>
   by_cases h0:i=0
   ·obtain rfl:true=F:=by rw[←HF.out,h0];rfl
    obtain rfl:lo=KL:=by rw[←HKL9.out,if_pos h0]
    clear h0;exact qb98405
   ·obtain rfl:false=F:=by rw[←HF.out];exact(beq_eq_false_iff_ne.2 h0).symm
    obtain rfl:k=KL:=by rw[←HKL9.out,if_neg h0]
    clear h0;exact qb98405
  case rest=>
  obtain⟨rfl,rfl⟩:=hcut
  go_upto_if 156 with(fail)
  go_cut [15] (fun s wq=>s=.string (strOf HI)∧wc=wq∧HI.length≤1000)
  case first=>
   by_cases hla:m≤i+1
   ·have d3:decide ((i:Int)+1<(m:Int))=false:=by simp;omega
    have d3':decide (i+1<m)=false:=by simp;omega
    obtain rfl:hi=HI:=by rw[←HHI9.out];exact(nextH_last (by have:=HL.out;omega)).symm
    have HHI:=Hd hhi;clear hla;simp only[d3];go_wp2_with fail;go_meet;exact⟨rfl,rfl,HHI.out⟩
   ·have d3:decide ((i:Int)+1<(m:Int))=true:=by simp;omega
    have d3':decide (i+1<m)=true:=by simp;omega
    obtain⟨b8,off8,y8,_,_,_,_,_,_,e8,hbb8,hy8,_,_,_,_,_,c08,_,_,_⟩:=RNodeOn.cell HV.out (show i+1<m by omega);cases e8;rw[cellsR_node] at hy8;obtain⟨x8,hx81,hx82⟩:=Option.map_eq_some_iff.1 hy8;subst hx82;obtain⟨k2,y82⟩:=x8;dsimp only at c08;have hk2:=(HG.out _ (List.mem_of_getElem? hx81)).1;dsimp only at hk2;have g8:=(HB.out.cell (p:=⟨b,off+(i+1)*4,none⟩) hbb8).trans c08;obtain rfl:k2=HI:=by rw[←HHI9.out];exact(nextH_mid (by simp[keysOf,hx81]) (by have:=HL.out;omega)).symm
    have HHI:Hid (k2.length≤1000):=Hd (by omega);have hla2:i+1<m:=by omega
    have hla3:(i:Int)+1<(m:Int):=by omega
    have hla4:(0:Int)≤(i:Int)+1:=by omega
    clear hla c08 hx81 hy8 hbb8;simp only[d3];go_wp2_with fail;go_meet;exact⟨rfl,rfl,HHI.out⟩
  case rest=>
  obtain⟨rfl,rfl,hHI9⟩:=hcut;obtain⟨D,hD⟩:∃D,depthT (n+1) kid KL HI false=D:=⟨_,rfl⟩
  have CD:=IH (HKID.out.below HB.out) HKB.out KL HI hKL9 hHI9;rw[hD] at CD;have HDD:Hid (depthT (n+1) kid (if i=0 then lo else k) (nextH hi (l.drop (i+1))) false=D):=Hd (by rw[HKL9.out,HHI9.out];exact hD);clear hD;go_wp2_with fail;refine CD.mono ?_;rintro e w9 ⟨rfl,hb9⟩;have HBQ:=Hd (below_via HB.out hb9);have HXQ:=Hd (HX.out.step hb9);clear hb9 u1 u2 m0 m3 e0 e1 e2 CD;cases D with
  | none=>
   have HR:Hid (R=none):=Hd (by rw[HD.out,show R2=none by rw[←HDK.out];exact depK_none HC1.out (by exact HDD.out)];simp);have hdi:depI none = -1:=rfl;rw[hdi];clear hdi;exact q42d8b3
  | some d=>
   have hdi:depI (some d)=(d:Int):=rfl;rw[hdi];clear hdi;have hd9:d+1≤1000:=Nat.le_trans (depthT_lt HDD.out) hn;have dz:decide ((d:Int)<0)=false:=decide_eq_false (by omega)
   by_cases hbf:i≠0∧d+1≠far
   ·have d5:decide ((0:Int)<(i:Int))=true:=by simp;omega
    have d5':decide (0<i)=true:=by simp;omega
    have dy:((d:Int)+1 != (far:Int))=true:=by have:=hbf.2;simp;omega
    have HR:Hid (R=none):=Hd (by rw[HD.out,show R2=none by rw[←HDK.out];exact depK_far HC1.out (by exact HDD.out) hbf];simp);clear hbf;exact q42d8b3
   ·have HR:Hid (depK (fun t lo hi=>depthT (n+1) t lo hi false) lo hi (i+1) (d+1) (l.drop (i+1))=R2):=Hd (by rw[←HDK.out];exact(depK_go HC1.out (by exact HDD.out) hbf).symm)
    by_cases h0:i=0
    ·have d5:decide ((0:Int)<(i:Int))=false:=by simp;omega
     have d5':decide (0<i)=false:=by simp;omega
     exact qe2b1f7
    ·have d5:decide ((0:Int)<(i:Int))=true:=by simp;omega
     have d5':decide (0<i)=true:=by simp;omega
     have dy:((d:Int)+1 != (far:Int))=false:=by simp;omega
     exact qe2b1f7
end Go.Proofs.YtpghlmcoajaiiaaGreatDoor
