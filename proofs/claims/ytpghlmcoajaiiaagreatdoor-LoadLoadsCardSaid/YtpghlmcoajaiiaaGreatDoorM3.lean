/- Texts that other texts of this claim lean on, one behind the other. -/
import Derived.Deep.RegionLaw
import Derived.Deep.RegionWith
import Derived.Laws.CopyOwn
import Derived.Outline
import Derived.Laws.BitsAllLaws
import Derived.Deep.DeepCutAuto
import Derived.Deep.RegionHeld3
import Derived.Deep.QuietTactic
import Derived.BigQuiet
import Derived.Defers
import Derived.Recover
import Derived.RegionTactic
import Derived.IntWalk
import Derived.Laws.EntriesVeiled
import Derived.Laws.StructEq
import Derived.Deep.CutBlock
import Derived.Test.YtpghlmcoajaiiaaGreatDoorM1
set_option maxHeartbeats 20000000
set_option maxRecDepth 100000
namespace Go.Proofs.YtpghlmcoajaiiaaGreatDoor
open Go.RowKit
section
variable {p:Prop}
theorem qcdd8fe (h:p:=by
 clear hD;go_wp2_with fail;refine(CD _ (by have:=HB9.out.size;repeat (first|exact HB9.out|apply Below.al|(refine Below.st ?_ (by simp;omega))))).mono ?_;rintro e w9 ⟨rfl,hb9⟩;have hbq:Below w.heap.size w w9:=Below.trans (by have:=HB9.out.size;repeat (first|exact HB9.out|apply Below.al|(refine Below.st ?_ (by simp;omega)))) (hb9.mono (by have:=HB9.out.size;simp;omega));have hxq:Boxes w9 [(w.heap.size+1,[.string (strOf lo),.string (strOf hi)]),(w.heap.size,[.int .i64 pg,.bool false,.slice _ m kc,.slice va vn vc,.slice _ m cc])]:=Boxes.step (by repeat (first|exact HX9.out|apply Boxes.al|(refine Boxes.st ?_ (by intro p hp;simp at hp;rcases hp with rfl|rfl<;>simp<;>omega)))) hb9;have HBQ:=Hd hbq;have HXQ:=Hd hxq;clear hbq hxq hb9 n0 n1 n2 n3 n4 s0 s1 e0 e1 e2 e3 e4 CD hb
 first|(have:=m23acf6;exact q23acf6)|(have:=mfb0ece;exact qfb0ece)):p:=h
theorem qe02527 (h:p:=by
 go_upto_region 17 with(fail)
 go_upto_region 19 with(fail)
 go_wp2_with (at_builtin;refine wpList_append_run rfl _ _ _ _ rfl rfl rfl hr19 ?_)
 go_roundw
 case rel=>exact⟨i+1,a19,d19,hlt,by go_num,HX20.out,by rw[HS.out,←List.append_assoc];exact HC20.out,HB20.out⟩
 case measure=>simp[intOf];omega):p:=h
theorem qc4be1b (h:p:=by
 first|(have:=me40966;exact qe40966)|(have:=mc89e69;exact qc89e69)|(have:=ma8b46f;exact qa8b46f)|(have:=mbe6a2d;exact qbe6a2d)):p:=h
theorem qbf9abd (h:p:=by
 go_wp2_with (first|(go_at_call 230;(with_reducible refine(M1 _).mono ?_);rintro e1 w7 ⟨rfl,hb7⟩;have hC7:=hC.trans (hb7.mono hC.size)))
 exact q9715df):p:=h
theorem q42818d (h:p:=by
 go_wp2_with (first|(go_at_call 230;(with_reducible refine(M1 _).mono ?_);rintro e1 w7 ⟨rfl,hb7⟩;have hC7:=hC.trans (hb7.mono hC.size)))
 refine bkw hK (by with_reducible assumption) (fun hHeld=>?_);clear hK K;refine tks [4,5] ?_;refine tks [6,7,8] ?_;refine tkn [9,10] ?_;refine tkn [11,12] ?_;refine tkn [13,14] ?_;refine tkn [15,16] ?_;refine tkn [17,18] ?_;refine tks [19,20] ?_;refine wpAnyH_done (by kernel_rfl) ?_ _;refine NoPanic.normal ?_;have hb8:=below_then hbw6 hC7;have B8:=(B6.step hC7).sub (m:=[(w.heap.size,[.bool true,.slice (some ⟨b,off,none⟩) len cap])]) (by intro p hp;simp at hp;subst hp;simp);clear hC hC7 hb7 B6 hr6;go_wp2_with fail;go_roundw
 case rel=>exact⟨0+1,by omega,by go_num,HU.out,B8,hb8⟩
 case measure=>simp[intOf];omega):p:=h
theorem qdbaf04 (h:p:=by
 go_wp2_with (first|(go_at_call 237;(with_reducible refine(M1 _).mono ?_);rintro e1 w7 ⟨rfl,hb7⟩;have hC7:=hC.trans (hb7.mono hC.size)))
 exact q9715df):p:=h
theorem qba5b5d (h:p:=by
 go_wp2_with (first|(go_at_call 237;(with_reducible refine(M1 _).mono ?_);rintro e1 w7 ⟨rfl,hb7⟩;have hC7:=hC.trans (hb7.mono hC.size)))
 refine bkw hK (by with_reducible assumption) (fun hHeld=>?_);clear hK K;refine tks [4,5] ?_;refine tks [6,7,8] ?_;refine tkn [9,10] ?_;refine tkn [11,12] ?_;refine tkn [13,14] ?_;refine tkn [15,16] ?_;refine tkn [17,18] ?_;refine tks [19,20] ?_;refine wpAnyH_done (by kernel_rfl) ?_ _;refine NoPanic.normal ?_;have hb8:=below_then hbw6 hC7;have B8:=(B6.step hC7).sub (m:=[(w.heap.size,[.bool false,.slice (some ⟨b,off,none⟩) len cap])]) (by intro p hp;simp at hp;subst hp;simp);clear hC hC7 hb7 B6 hr6;go_wp2_with fail;go_roundw
 case rel=>exact⟨0+1,by omega,by go_num,HU.out,B8,hb8⟩
 case measure=>simp[intOf];omega):p:=h
theorem q3dc94d (h:p:=by
 have hC:Below W6.heap.size W6 W6.drew:=(Below.refl _ _).drew;refine wp_region_noPanic ?_;refine wp_region_held_drew (S:=fun W=>Below W6.heap.size W6 W) (by kernel_rfl) (by with_reducible assumption) (fun hHeld=>?_);refine tks [0,1,2] ?_;refine rdy 3 (fun K hK=>?_);rw[if_pos (by rfl)]
 first|(have:=mc4be1b;exact qc4be1b)|(have:=mbf9abd;exact qbf9abd)|(have:=m42818d;exact q42818d)|(have:=mdbaf04;exact qdbaf04)|(have:=mba5b5d;exact qba5b5d)):p:=h
theorem qfb3295 (h:p:=by
 rw[hlf,hm,hpg];have CF:=fits_any (hh.below hB0) hb lo hi hlo hhi;have CS:=fun W (hW:Below w.heap.size w W)=>tsizes_any (hh.below hW) hb
 have hSm:=hb.small;have hsum:(decide (sumT t≤122)=decide (sumI (sizesT t)≤122))∧(lowT t=decide (sumI (sizesT t)<30)):=⟨rfl,rfl⟩
 obtain⟨R,hR⟩:∃R,depthT (n+1) t lo hi root=R:=⟨_,rfl⟩
 have hfail:(fitT lo hi t && sizeB root t)=false→R=none:=fun h=>by
  rw[←hR];cases t<;>(unfold depthT;rw[h];rfl)
 have hsz:sizeB root t=(decide ((if lf then 1 else 2)≤m) && (decide (sumI (sizesT t)≤122) && (root || !decide (sumI (sizesT t)<30)))):=by
  unfold sizeB;rw[hlf,hm];rfl
 have H1:=Hd h1;have HFAIL:=Hd hfail;have HSZ:=Hd hsz;have HB:=Hd hB0;have HX:=Hd hX0;have hkids:∃l:List (List UInt8×Tr),(lf=false→((fitT lo hi t && sizeB root t)=true→R=depK (fun t lo hi=>depthT n t lo hi false) lo hi 0 0 l)∧l.length=m∧keysOf l=t.keys∧(∀c∈l,c.1.length≤200∧Bnd n c.2)∧TabR 5 (NodeIn n w) w ca cn cc (l.map (·.2)))∧(lf=true→(fitT lo hi t && sizeB root t)=true→R=some 0):=by
  cases t with
  | leaf p l0=>exact⟨[],(fun h=>by rw[←hlf] at h;cases h),(fun _ h=>by rw[←hR,depthT_leaf,if_pos h])⟩
  | node p l0=>exact⟨l0,(fun _=>⟨(fun h=>by rw[←hR,depthT_node,if_pos h]),hm,rfl,hb.2,Raw.tab h3 h4.2.2⟩),(fun h=>by rw[←hlf] at h;cases h)⟩
 obtain⟨l,hl1,hl2⟩:=hkids;have HL1:=Hd hl1;have HL2:=Hd hl2;have HSm:=Hd hSm;clear h h1 h2 h3 h4 hB0 hX0 hlf hm hpg r2 hb hfail hsz hl1 hl2 hsum hSm hh;generalize t.keys=K at *;generalize fitT lo hi t=FT at *;generalize sizeB root t=SZ at *;obtain⟨S,hS⟩:∃S,sizesT t=S:=⟨_,rfl⟩
 rw[hS] at CS HSZ HSm;rw[hR];clear hS hR;have n0:=HX.out.cell 1 0 rfl rfl;have n1:=HX.out.cell 1 1 rfl rfl;have n2:=HX.out.cell 1 2 rfl rfl;have n3:=HX.out.cell 1 3 rfl rfl;have n4:=HX.out.cell 1 4 rfl rfl;have s0:=HX.out.cell 0 0 rfl rfl;have s1:=HX.out.cell 0 1 rfl rfl;cases lf with
 | true=>
  simp only[if_true] at hcn;replace hcn:=hcn.symm;subst hcn;replace HSZ:Hid (SZ=(decide (1≤m) && (decide (sumI S≤122) && (root || !decide (sumI S<30))))):=Hd HSZ.out;go_enter Tryz.func98,Tryz.ntmps98;go_wp2_with fail
  try rw[hwA]
  clear hwA;cases FT with
  | false=>
   have mc4edfd:=trivial;exact q0fde97
  | true=>
   by_cases hle:m<1
   ·have d1:decide ((m:Int)<1)=true:=by simp;omega
    have d1':decide (m<1)=true:=by simp;omega
    have HLE:=Hd hle;clear hle;have m96afa6:=trivial;exact q0fde97
   have d1:decide ((m:Int)<1)=false:=by simp;omega
   have d1':decide (m<1)=false:=by simp;omega
   have HLE:Hid (1≤m):=Hd (by omega);clear hle;have md23826:=trivial;exact q0fde97
 | false=>
  simp only[Bool.false_eq_true,if_false] at hcn;replace hcn:=hcn.symm;subst hcn;replace HSZ:Hid (SZ=(decide (2≤m) && (decide (sumI S≤122) && (root || !decide (sumI S<30))))):=Hd HSZ.out;go_enter Tryz.func98,Tryz.ntmps98;go_wp2_with fail
  try rw[hwA]
  clear hwA;cases FT with
  | false=>
   have mc4edfd:=trivial;exact q0fde97
  | true=>
   by_cases hle:m<2
   ·have d1:decide ((m:Int)<2)=true:=by simp;omega
    have d1':decide (m<2)=true:=by simp;omega
    have HLE:=Hd hle;clear hle;have m96afa6:=trivial;exact q0fde97
   have d1:decide ((m:Int)<2)=false:=by simp;omega
   have d1':decide (m<2)=false:=by simp;omega
   have HLE:Hid (2≤m):=Hd (by omega);clear hle;have mb9067d:=trivial;exact q0fde97):p:=h
theorem qcd5409 (h:p:=by
 rw[hm] at h1;rw[hlf,hm,hpg];have CC:=fitsc_any (TabR.move hv1 hB0 (fun _ _ _ h=>h.below hB0)) hv2;have hK:∀i,i<m→(t.keys[i]?.getD []).length≤200:=fun i hi=>by
  cases t with
  | leaf p l=>
   have hm:l.length=m:=hm;have:=(hb.2 l[i] (List.getElem_mem (by omega))).1;simpa[Tr.keys,keysOf,show i<l.length by omega] using this
  | node p l=>
   have hm:l.length=m:=hm;have:=(hb.2 l[i] (List.getElem_mem (by omega))).1;simpa[Tr.keys,keysOf,show i<l.length by omega] using this
 have H1:=Hd h1;have HB:=Hd hB0;have HFIT:=Hd hfit;have HK:=Hd hK;have n0:=hX0.cell 1 0 rfl rfl;have n1:=hX0.cell 1 1 rfl rfl;have n2:=hX0.cell 1 2 rfl rfl;have n3:=hX0.cell 1 3 rfl rfl;have n4:=hX0.cell 1 4 rfl rfl;have s0:=hX0.cell 0 0 rfl rfl;have s1:=hX0.cell 0 1 rfl rfl;clear h h1 h2 h3 h4 hB0 hX0 hlf hm hpg r1 r2 hb hv1 hv2 hfit hK;generalize t.keys=K at *;obtain⟨FT,hFT⟩:∃x,fitT lo hi t=x:=⟨_,rfl⟩
 rw[hFT] at HFIT ⊢;clear hFT;obtain⟨VA,hVA⟩:∃x,vl.all valB=x:=⟨_,rfl⟩
 rw[hVA] at HFIT CC;clear hVA;cases lf with
 | true=>
  simp only[if_true] at hvn hcn;subst hvn hcn;go_enter Tryz.func142,Tryz.ntmps142;go_wp2_with fail
  try rw[hwA]
  clear hwA
  go_loop [5,6,7,48] (fun _ _ _ s=>∃i:Nat,i≤vn∧s=.int .i64 i∧fitTo lo hi true K i=true) (fun _ _ _ s=>vn-(intOf s).toNat)
  case atStart=>exact⟨0,Nat.zero_le _,rfl,rfl⟩
  case round=>
   obtain⟨i,hi',rfl,hall⟩:=hrel
   by_cases hlt:i<vn
   ·obtain⟨b,off,rfl,hbb,hcell⟩:=H1.out.key_at hlt
    have k0:=(HB.out.cell (p:=⟨b,off+i,none⟩) hbb).trans hcell;have hkl:=HK.out i hlt;obtain⟨k,hk⟩:∃k,K[i]?.getD []=k:=⟨_,rfl⟩
    rw[hk] at hkl k0;have hsz:=strOf_size k;have HKK:=Hd hk;have HA:=Hd hall;clear hk hcell hall;cases i with
    | zero=>
     rw[Nat.add_zero] at k0;have d0:decide ((0:Int)<(vn:Int))=true:=by simp;omega
     have d0':decide (0<vn)=true:=by simp;omega
     by_cases hk0:k=[]
     ·obtain⟨e1,e2⟩:=str_empty hk0
      exact q74289f
     obtain⟨e1,e2⟩:=str_some hk0;have HK0:=Hd hk0;clear hk0;obtain⟨kl,hkl0⟩:∃x,k.length=x:=⟨_,rfl⟩
     rw[hkl0] at hsz hkl;have HKL:=Hd hkl0;clear hkl0
     by_cases hl:16<kl
     ·have q1:decide ((16:Int)<kl)=true:=by simp;omega
      have q1':decide (16<kl)=true:=by simp;omega
      have HE:Hid (FT=false):=Hd (by rw[HFIT.out,fitTo_bad (i:=0) (by omega) (by have h9:=HKL.out;unfold fitAt;rw[HKK.out];simp;omega)];rfl);exact q993faf
     have q1:decide ((16:Int)<kl)=false:=by simp;omega
     have q1':decide (16<kl)=false:=by simp;omega
     have HL16:Hid (k.length≤16):=Hd (by have:=HKL.out;omega)
     by_cases hlo2:k<lo
     ·obtain⟨l1,l2,_,_⟩:=cmp_lt hlo2
      have HLO:=Hd hlo2;clear hlo2 l2;have HE:Hid (FT=false):=Hd (by rw[HFIT.out,fitTo_bad (i:=0) (by omega) (by unfold fitAt;rw[HKK.out];simp[HLO.out])];rfl);exact q993faf
     have l1:Op.bytesLess (strOf k).toList (strOf lo).toList=false:=by rw[strOf_toList,strOf_toList,bytes_lessT];simpa using hlo2
     have HLO:=Hd hlo2;clear hlo2
     by_cases hh:hi=[]
     ·obtain⟨e3,e4⟩:=str_empty hh
      have HH:=Hd hh;clear hh;have HT2:Hid (fitTo lo hi true K (0+1)=true):=Hd (by rw[fitTo_succ,HA.out,Bool.true_and];unfold fitAt;rw[HKK.out];simp[HK0.out,HL16.out,HLO.out,HH.out]);exact q317315
     obtain⟨e3,e4⟩:=str_some hh;have HH:=Hd hh;clear hh
     by_cases hh2:k<hi
     ·have g1:Op.bytesLess (strOf k).toList (strOf hi).toList=true:=by rw[strOf_toList,strOf_toList,bytes_lessT];simpa using hh2
      have HH2:=Hd hh2;clear hh2;have HT2:Hid (fitTo lo hi true K (0+1)=true):=Hd (by rw[fitTo_succ,HA.out,Bool.true_and];unfold fitAt;rw[HKK.out];simp[HK0.out,HL16.out,HLO.out,HH2.out]);exact q317315
     ·have g1:Op.bytesLess (strOf k).toList (strOf hi).toList=false:=by rw[strOf_toList,strOf_toList,bytes_lessT];simpa using hh2
      have HH2:=Hd hh2;clear hh2;have HE:Hid (FT=false):=Hd (by rw[HFIT.out,fitTo_bad (i:=0) (by omega) (by unfold fitAt;rw[HKK.out];simp[HH.out,HH2.out])];rfl);exact q993faf
    | succ i=>
     obtain⟨b2,off2,e2,hb2,hc2⟩:=H1.out.key_at (show i<vn by omega);cases e2;have k1:=(HB.out.cell (p:=⟨b,off+i,none⟩) hbb).trans hc2;have hkl2:=HK.out i (by omega);obtain⟨kp,hkp⟩:∃k,K[i]?.getD []=k:=⟨_,rfl⟩
     rw[hkp] at hkl2 k1;have d0:decide (((i+1:Nat):Int)<(vn:Int))=true:=by simp;omega
     have d0':decide (i+1<vn)=true:=by simp;omega
     have m788913:=trivial;exact qd0c851
   ·obtain rfl:i=vn:=by omega
    exact q7a1f1a
 | false=>
  simp only[Bool.false_eq_true,if_false] at hvn hcn;subst hvn hcn;go_enter Tryz.func142,Tryz.ntmps142;go_wp2_with fail
  try rw[hwA]
  clear hwA
  go_loop [5,6,7,48] (fun _ _ _ s=>∃i:Nat,i≤cn∧s=.int .i64 i∧fitTo lo hi false K i=true) (fun _ _ _ s=>cn-(intOf s).toNat)
  case atStart=>exact⟨0,Nat.zero_le _,rfl,rfl⟩
  case round=>
   obtain⟨i,hi',rfl,hall⟩:=hrel
   by_cases hlt:i<cn
   ·obtain⟨b,off,rfl,hbb,hcell⟩:=H1.out.key_at hlt
    have k0:=(HB.out.cell (p:=⟨b,off+i,none⟩) hbb).trans hcell;have hkl:=HK.out i hlt;obtain⟨k,hk⟩:∃k,K[i]?.getD []=k:=⟨_,rfl⟩
    rw[hk] at hkl k0;have hsz:=strOf_size k;have HKK:=Hd hk;have HA:=Hd hall;clear hk hcell hall;cases i with
    | zero=>
     rw[Nat.add_zero] at k0;have d0:decide ((0:Int)<(cn:Int))=true:=by simp;omega
     have d0':decide (0<cn)=true:=by simp;omega
     by_cases hk0:k=[]
     ·obtain⟨e1,e2⟩:=str_empty hk0
      have hl0:k.length=0:=by rw[hk0];rfl
      have HK0:=Hd hk0;rw[hl0] at hsz;clear hk0 hl0 hkl
      by_cases hh:hi=[]
      ·obtain⟨e3,e4⟩:=str_empty hh
       have HH:=Hd hh;clear hh;have HT2:Hid (fitTo lo hi false K (0+1)=true):=Hd (by rw[fitTo_succ,HA.out,Bool.true_and];unfold fitAt;rw[HKK.out];simp[HK0.out,HH.out]);exact q317315
      ·obtain⟨e3,e4⟩:=str_some hh
       have hlt2:k<hi:=by rw[HK0.out];exact knil_lt hh
       have g1:Op.bytesLess [] (strOf hi).toList=true:=by rw[strOf_toList,bytes_lessT];simpa using knil_lt hh
       have HH:=Hd hlt2;clear hh hlt2;have HT2:Hid (fitTo lo hi false K (0+1)=true):=Hd (by rw[fitTo_succ,HA.out,Bool.true_and];have h9:=HH.out;rw[HK0.out] at h9;unfold fitAt;rw[HKK.out,HK0.out];simp[h9]);exact q317315
     ·obtain⟨e1,e2⟩:=str_some hk0
      exact q74289f
    | succ i=>
     obtain⟨b2,off2,e2,hb2,hc2⟩:=H1.out.key_at (show i<cn by omega);cases e2;have k1:=(HB.out.cell (p:=⟨b,off+i,none⟩) hbb).trans hc2;have hkl2:=HK.out i (by omega);obtain⟨kp,hkp⟩:∃k,K[i]?.getD []=k:=⟨_,rfl⟩
     rw[hkp] at hkl2 k1;have d0:decide (((i+1:Nat):Int)<(cn:Int))=true:=by simp;omega
     have d0':decide (i+1<cn)=true:=by simp;omega
     have m1b5bfe:=trivial;exact qd0c851
   ·obtain rfl:i=cn:=by omega
    exact q7a1f1a):p:=h
theorem q798742 (h:p:=by
 have hB0:Below w.heap.size w ((w.alloc (.cells #[.int .i64 pg,.bool lf,.slice ka m kc,.slice va vn vc,.slice ca cn cc] 50)).alloc (.cells #[.string (strOf lo),.string (strOf hi)] 215)):=Below.al (Below.al (Below.refl _ _));have hX0:Boxes _ [(w.heap.size+1,[.string (strOf lo),.string (strOf hi)]),(w.heap.size,[.int .i64 pg,.bool lf,.slice ka m kc,.slice va vn vc,.slice ca cn cc])]:=((Boxes.nil w).alloc #[.int .i64 pg,.bool lf,.slice ka m kc,.slice va vn vc,.slice ca cn cc] 50 rfl).alloc #[.string (strOf lo),.string (strOf hi)] 215 (b:=w.heap.size+1) (by simp);obtain⟨wA,hwA⟩:∃wA,(w.alloc (.cells #[.int .i64 pg,.bool lf,.slice ka m kc,.slice va vn vc,.slice ca cn cc] 50)).alloc (.cells #[.string (strOf lo),.string (strOf hi)] 215)=wA:=⟨_,rfl⟩
 rw[hwA] at hB0 hX0
 first|(have:=mfb3295;exact qfb3295)|(have:=mcd5409;exact qcd5409)):p:=h
theorem q8558fa (h:p:=by
 obtain⟨y,hy,hy1,hy2⟩:∃y:Rc,(E'=0→RcOn (RG wB.heap.size v' (.slice aL LL.length cL)) n w6 [.string (strOf key),.string S',.slice pa pn pc,.slice none 0 0] y)∧(E'≠0→RF=.error E')∧(E'=0→∃Li:List (List UInt8×Tv),Li.length=i+1∧ys++[y]=(Li.map fun c=>(⟨c.1,c.2,none⟩:Rc))∧SeenOk seen'∧afterL Li (valsL d r seen' (gl.drop (i+1)))=R0):=by
  obtain⟨Li,g1,g2,g3,g4⟩:=HINV.out;rw[HDR.out] at g4;cases hv:valL d r s ⟨vd,vf,vs,vp⟩ with
  | error x=>
   rw[hv] at hres;obtain⟨rfl,hx⟩:=hres;rw[valsL_err hv] at g4;exact⟨⟨[],⟨[],[]⟩,none⟩,fun h=>absurd h hx,fun _=>by rw[HRR.out,←g4];rfl,fun h=>absurd h hx⟩
  | ok z=>
   obtain⟨s2,tv⟩:=z;rw[hv] at hres;obtain⟨rfl,rfl,hton⟩:=hres;rw[valsL_ok hv,afterL_app] at g4;refine⟨⟨key,tv,none⟩,fun _=>?_,fun h=>absurd rfl h,fun _=>⟨Li++[(key,tv)],by simp[g1],by rw[List.map_append,g2];rfl,(valL_seen hv (leaf_page HNB9.out _ HENM.out).2 g3).1,g4⟩⟩;have hton6:=hton.agree (w':=w6) ⟨hl6,fun b hb hlt3=>ho56.block hlt3 (by have:=hb.1;simp;omega)⟩;obtain⟨xa,xn,xc,e1,e2,e3⟩:=hton6;cases e1;exact⟨pa,pn,pc,none,0,0,rfl,e2,e3.mono (fun b hb=>⟨by have:=hb.1;omega,hb.2,fun e=>by have:=(HM.out.lge e).2;have:=hb.1;omega⟩),⟨rfl,by simp,by unfold maxLen;omega,fun _=>rfl,.inl rfl⟩,Fa.zero _ _⟩
 have hll:=HLL.out;obtain⟨aN,cN,w7,LL',hrun,f8,f9,hl',hmP⟩:=hm6.push (by omega) (x0:=.string (strOf key)) (x1:=.string S') (x2:=.slice pa pn pc) (x3:=.slice none 0 0) (by intro u hu;simp at hu;rcases hu with rfl|rfl|rfl|rfl<;>rfl) hy;exact q14c47d):p:=h
theorem qc4b5d6 (h:p:=by
 obtain⟨y,hy,hy1,hy2⟩:∃y:Rc,(E'=0→RcOn (RG wB.heap.size v' (.slice aL LL.length cL)) n w6 [.string (strOf key),.string ⟨#[]⟩,.slice none 0 0,.slice (some ⟨w5'.heap.size,0,none⟩) 1 1] y)∧(E'≠0→RF=.error E')∧(E'=0→∃Li:List (List UInt8×Tr),Li.length=i+1∧ys++[y]=(Li.map fun c=>(⟨c.1,⟨[],[]⟩,some c.2⟩:Rc))∧SeenOk seen'∧roomL seen'<n∧RF=nodeR p R0∧afterL Li (kidsL (loadT d r n) seen' (gl.drop (i+1)))=R0):=by
  obtain⟨Li,g1,g2,g3,g3r,g3R,g4⟩:=HINV.out;rw[HDR.out] at g4;cases hv:loadT d r n s vp with
  | error x=>
   rw[hv] at hres;obtain⟨rfl,hx⟩:=hres;rw[kidsL_err hv] at g4;exact⟨⟨[],⟨[],[]⟩,none⟩,fun h=>absurd h hx,fun _=>by rw[g3R,←g4];rfl,fun h=>absurd h hx⟩
  | ok z=>
   obtain⟨s2,kid⟩:=z;rw[hv] at hres;obtain⟨rfl,rfl,hkid⟩:=hres;rw[kidsL_ok hv,afterL_app] at g4;obtain⟨q1,q2,q3⟩:=loadT_seen hd (show vp≠0 by have:=(HPG.out _ HENM.out).1;dsimp only at this;omega) g3 hv;refine⟨⟨key,⟨[],[]⟩,some kid⟩,fun _=>?_,fun h=>absurd rfl h,fun _=>⟨Li++[(key,kid)],by simp[g1],by rw[List.map_append,g2];rfl,q1,by have:=roomL_mono (seen:=s) (l:=q2);rw[q3];omega,g3R,g4⟩⟩;have hk2:RNodeOn (RG wB.heap.size v' (.slice aL LL.length cL)) n w6 [.int .i64 kp,.bool klf,.slice xa xn xc] kid:=RNodeOn.mono (fun b hb=>⟨by have:=hb.1;omega,hb.2,fun e=>by have:=(HM.out.lge e).2;have:=hb.1;omega⟩) (hkid.agree ⟨hl6,fun b hb hlt3=>ho56.block hlt3 (by have:=hb.1;simp;omega)⟩);refine⟨none,0,0,some ⟨w5'.heap.size,0,none⟩,1,1,rfl,⟨rfl,by simp,by unfold maxLen;omega,fun _=>rfl,.inl rfl⟩,Fa.zero _ _,⟨rfl,Nat.le_refl _,by unfold maxLen;omega,fun h=>(by cases h),.inr ⟨w5'.heap.size,0,rfl,hxk6.lt 0 rfl,fun j y hj=>?_⟩⟩,.inr fun b off e=>?_⟩
   ·cases j with
    | succ j=>simp at hj
    | zero=>
     simp at hj;subst hj;refine⟨[.int .i64 kp,.bool klf,.slice xa xn xc],rfl,hk2,fun m u hu=>?_⟩;exact qc9233d
   ·cases e
    exact⟨by omega,fun e=>by have:=(hd'.ge e).2;omega,fun e=>by have:=(HM.out.lge e).2;omega⟩
 have hll:=HLL.out;obtain⟨aN,cN,w7,LL',hrun,f8,f9,hl',hmP⟩:=hm6.push (by omega) (x0:=.string (strOf key)) (x1:=.string ⟨#[]⟩) (x2:=.slice none 0 0) (x3:=.slice (some ⟨w5'.heap.size,0,none⟩) 1 1) (by intro u hu;simp at hu;rcases hu with rfl|rfl|rfl|rfl<;>rfl) hy;exact q14c47d):p:=h
theorem q8a5ebb (h:p:=by
 have hk6:∀k∈[wr.heap.size],k=wr.heap.size∨w5'.heap.size≤k:=fun k hk=>.inl (by simpa using hk)
 have hl6:w5'.heap.size≤w6.heap.size:=ho56.size;have hv'c:v'.ownBlock≠some wr.heap.size:=fun e=>by
  rcases ht' with t|t
  ·exact hcbn (RS.mem.2 (.inr (t ▸ e)))
  ·have:=t _ e;omega
 have hd6:RLd w6 sb a len cap d r v' seen' E':=hd'.only ho56 (fun k hk=>by
  rcases hk6 k hk with rfl|hk
  ·exact⟨by omega,hv'c⟩
  ·refine⟨by omega,fun e=>?_⟩
   have:=(hd'.ge e).2;omega)
 have ho6:Only (RS sb vi) wr w6:=((Only.of_below HBB.out).trans ho').then ho56 (fun k hk=>by
  rcases hk6 k hk with rfl|hk
  ·exact .inr (Nat.le_refl _)
  ·exact .inr (by omega))
 have ht6:Turn wr vi v':=ht'.from (by omega)
 have hm6:=HM.out.turn hd6 ho6 ht6
 first|(have:=m8558fa;exact q8558fa)|(have:=mc4b5d6;exact qc4b5d6)):p:=h
theorem qfe44c7 (h:p:=by
 exact q432908):p:=h
theorem qb8aea9 (h:p:=by
 have B8:=(B6.step hC7).sub (m:=[(w.heap.size,[.bool false,.slice (some ⟨b,off,none⟩) len cap])]) (by intro p hp;simp at hp;subst hp;simp);exact qbdac8e):p:=h
theorem qc66b07 (h:p:=by
 have B8:=(B6.step hC7).sub (m:=[(w.heap.size,[.bool true,.slice (some ⟨b,off,none⟩) len cap])]) (by intro p hp;simp at hp;subst hp;simp);exact qbdac8e):p:=h
theorem qc62c2b (h:p:=by
 refine bkw hK (by with_reducible assumption) (fun hHeld=>?_);clear hK K;refine tks [4,5] ?_;refine tks [6,7] ?_;refine tks [8,9] ?_;refine tks [10,11] ?_;refine tks [12,13] ?_;refine tks [14,15] ?_;refine tks [16,17] ?_;refine tks [18,19,20] ?_;refine wpAnyH_done (by kernel_rfl) ?_ _;refine NoPanic.normal ?_;have hb8:=below_then hbw6 hC7
 first|(have:=mfe44c7;exact qfe44c7)|(have:=mb8aea9;exact qb8aea9)|(have:=mc66b07;exact qc66b07)):p:=h
theorem qb88622 (h:p:=by
 clear ho8 hg8 hv8;clear hown hb hbx hnb q1 hst;exact qc8f5eb):p:=h
theorem qcb51fa (h:p:=by
 clear hown hb hbx hnb ho8 hg8 hv8 q1 hst;exact qc8f5eb):p:=h
theorem qa6514e (h:p:=by
 clear hown hb hbx hnb ho8 hg8 hv8 q1 hst;clear hvs;go_wp2_with fail;refine(N _).mono ?_;rintro e w2 ⟨rfl,rfl⟩;exact qc8f5eb):p:=h
theorem q37f2f9 (h:p:=by
 have HB8:=Hd (hb.grown hg8 hb.size (own_ge hown));have HX8:=Hd (hbx.grown hg8 (by intro p hp;simp at hp;subst hp;exact hnb));have HN8:Hid (v8.ownBlock≠some w.heap.size):=Hd (by
  rcases hv8 with h|h
  ·rw[h];exact hnb
  ·rw[h];intro e;have:=hb.size;have:=Option.some.inj e;omega)
 have HO8:Hid (w8.ownsRow w.heap.size 3 1 v8 (i+1) ((S.take (i+1)).map (Value.int .i64))):=Hd (by
  rw[hst.out,q1,List.map_append];exact ho8)
 first|(have:=mb88622;exact qb88622)|(have:=mcb51fa;exact qcb51fa)|(have:=ma6514e;exact qa6514e)):p:=h
theorem qd21dd5 (h:p:=by
 go_wp2_with fail
 try rw[hwA]
 refine CF.mono ?_;rintro e w2 ⟨rfl,hb2⟩;have HB2:=Hd (HB.out.trans (hb2.mono HB.out.size));clear CF hb2;go_wp2_with fail;go_ret;exact⟨by rw[HE.out];rfl,HB2.out⟩):p:=h
theorem qd0073c (h:p:=by
 obtain⟨wB,hwB⟩:∃x,wC.setCell ⟨w.heap.size+1,1,none⟩ (.bool false)=x:=⟨_,rfl⟩
 have m8b190f:=trivial;exact q49f56b):p:=h
theorem qf77d86 (h:p:=by
 obtain⟨wB,hwB⟩:∃x,wC.setCell ⟨w.heap.size+1,1,none⟩ (.bool true)=x:=⟨_,rfl⟩
 have m0334aa:=trivial;exact q49f56b):p:=h
theorem qea283d (h:p:=by
 have hb25:Below w2.heap.size w2 w5:=HBX.out.trans ((hbn.trans (hb45.mono hsx4)).mono hsx);have hd5:=HD2.out.below hb25;have hx5:=HX2.out.step hb25;have hs25:=hb25.size;have a3:=hd5.box.cell 0 3 rfl rfl;have e3:=hd5.box.frozen 0 3 rfl;obtain⟨wC,hwC⟩:∃x,w5.setCell ⟨sb,3,none⟩ (.int .i64 ge)=x:=⟨_,rfl⟩
 have hoC:Only [sb] w5 wC:=by rw[←hwC];exact(Only.refl _ _).set _ _ (by simp)
 have hdC:RLd wC sb a len cap d r v2 (seen++[p]) ge:=by rw[←hwC];exact hd5.err ge
 have hxC:=hx5.only hoC (by intro q hq;simp at hq;rcases hq with rfl|rfl<;>simp<;>omega);have hxnC:=hxn.only hoC (by intro q hq;simp at hq;subst hq;simp;omega);have nC:=hxnC.cell 0 0 rfl rfl;have oC:=hxC.cell 0 1 rfl rfl;have pC:=hxC.frozen 0 1 rfl
 first|(have:=md0073c;exact qd0073c)|(have:=mf77d86;exact qf77d86)):p:=h
theorem qda4a5e (h:p:=by
 have HI1:=Hd (show ge≠0→RF=.error ge from fun h=>by rw[←HRF.out];unfold loadT;rw[if_neg hm,if_neg (by omega),if_pos (by rw[HRB.out,HGE.out];exact h),HRB.out,HGE.out]);have HI2:=Hd (show ge=0→∃Li:List (List UInt8×Tr),Li.length=0∧([]:List Rc)=(Li.map fun c=>(⟨c.1,⟨[],[]⟩,some c.2⟩:Rc))∧SeenOk (seen++[p])∧roomL (seen++[p])<n∧RF=nodeR p R0∧afterL Li (kidsL (loadT d r n) (seen++[p]) (gl.drop (0)))=R0 from fun hge0=>⟨[],rfl,rfl,HSK.out.snoc hm (paged_range hd HPE.out).1 (paged_range hd HPE.out).2,by
  have hrng:=paged_range hd HPE.out;have:=roomL_see hm (by omega) hrng.2;omega,by rw[←HRF.out];unfold loadT;rw[if_neg hm,if_neg (by omega),if_neg (by rw[HRB.out,HGE.out];omega),if_neg (by rw[hF];simp),hR0];cases R0<;>rfl,by rw[List.drop_zero,afterL_nil,←HGL.out,←HRB.out];exact hR0⟩)
 have HPG:=Hd (show ∀e∈gl,2≤e.v.page∧e.v.page≤999 from by
  rw[←HGL.out]
  by_cases h0:getNE rb=0
  ·have h1:=getN_node h0
   have h2:=(nodeB_small h1).2.2 (by rw[←HRB.out];exact hF);exact h2
  ·unfold getNL;rw[if_neg h0];simp)
 clear hon hbn hb45 hs45 hxn hb25 hd5 hx5 hs25 hoC hdC hxC hxnC hoB hszC hszB hv2n hv2g hRM hxnB hents G;go_wp2_with fail;have hzc:=zero_refC;clear a3 e3 nC oC pC hwC hwB hw5
 go_loopw [9,10] (fun s9 _ wr=>∃(i:Nat) (vi:Value) (s:List Int) (E:Int) (vL:Value) (LL:List (Cl 4)) (ys:List Rc),i≤gl.length∧s9=.int .i64 i∧LL.length=i∧RM w wB sb a len cap d r v v2 (w.heap.size+1) w.heap.size n p false vi s E vL LL ys wr∧(E≠0→RF=.error E)∧(E=0→∃Li:List (List UInt8×Tr),Li.length=i∧ys=(Li.map fun c=>(⟨c.1,⟨[],[]⟩,some c.2⟩:Rc))∧SeenOk s∧roomL s<n∧RF=nodeR p R0∧afterL Li (kidsL (loadT d r n) s (gl.drop (i)))=R0)) (fun s _ _=>gl.length-(intOf s).toNat)
 case atStart=>exact⟨0,v2,_,ge,_,[],[],Nat.zero_le _,rfl,rfl,HRM.out,HI1.out,HI2.out⟩
 case round=>
  have mea64ca:=trivial;exact qa31acf):p:=h
theorem qa4cdfe (h:p:=by
 have hge0:ge=0:=by
  rw[←HGE.out,←HRB.out];unfold getNF at hF
  split at hF
  ·rename_i h;exact h
  ·cases hF
 have HI1:=Hd (show ge≠0→RF=.error ge from fun h=>absurd hge0 h);have HI2:=Hd (show ge=0→∃Li:List (List UInt8×Tv),Li.length=0∧([]:List Rc)=(Li.map fun c=>(⟨c.1,c.2,none⟩:Rc))∧SeenOk (seen++[p])∧afterL Li (valsL d r (seen++[p]) (gl.drop 0))=R0 from fun _=>⟨[],rfl,rfl,HSK.out.snoc hm (paged_range hd HPE.out).1 (paged_range hd HPE.out).2,by rw[List.drop_zero,afterL_nil,←HGL.out,←HRB.out];exact hR0⟩);have HNB9:=Hd (show nodeB true gl=true by have:=getN_node (b:=rb) (by rw[HGE.out];exact hge0);rw[HGL.out,←HRB.out,hF] at this;exact this);have HRR:=Hd (show RF=leafR p R0 by rw[←HRF.out];unfold loadT;rw[if_neg hm,if_neg (by omega),if_neg (by rw[HRB.out,HGE.out];omega),if_pos hF,hR0];cases R0<;>rfl);clear hge0;clear hon hbn hb45 hs45 hxn hb25 hd5 hx5 hs25 hoC hdC hxC hxnC hoB hszC hszB hv2n hv2g hRM hxnB hents G;go_wp2_with fail;have hzc:=zero_refC;clear a3 e3 nC oC pC hwC hwB hw5
 go_loopw [9,10] (fun s9 _ wr=>∃(i:Nat) (vi:Value) (s:List Int) (E:Int) (vL:Value) (LL:List (Cl 4)) (ys:List Rc),i≤gl.length∧s9=.int .i64 i∧LL.length=i∧RM w wB sb a len cap d r v v2 (w.heap.size+1) w.heap.size n p true vi s E vL LL ys wr∧(E≠0→RF=.error E)∧(E=0→∃Li:List (List UInt8×Tv),Li.length=i∧ys=(Li.map fun c=>(⟨c.1,c.2,none⟩:Rc))∧SeenOk s∧afterL Li (valsL d r s (gl.drop i))=R0)) (fun s _ _=>gl.length-(intOf s).toNat)
 case atStart=>exact⟨0,v2,_,ge,_,[],[],Nat.zero_le _,rfl,rfl,HRM.out,HI1.out,HI2.out⟩
 case round=>
  have ma1b7c5:=trivial;exact qa31acf):p:=h
theorem q98be54 (h:p:=by
 have hxnB:=hxnC.only hoB (by intro q hq;simp at hq;subst hq;simp;omega);have HNB0:=Hd (hxnB.cell 0 0 rfl rfl);have HNB1:=Hd (hxnB.cell 0 1 rfl rfl);obtain⟨a',c',e',hents⟩:=OwnRe.ents hon;cases e';have HENTS:=Hd hents;have HGEB:=Hd (own_ge hon);have HB4:Hid (AgreeF (fun b=>b≠sb∧b≠w.heap.size+1) w4 wB):=Hd ((AgreeF.of_below hb45).trans ⟨by omega,fun b hb hlt=>(hoB.block (by omega) (by simp;exact hb.2)).trans (hoC.block hlt (by simp;exact hb.1))⟩);have HV2G:=Hd hv2g;have HRM:=Hd hRM;have HSZB:=Hd hszB;have hgl9:gl.length≤122:=by
  rw[←HGL.out];unfold getNL
  split
  ·rename_i h0
   have:=(nodeB_small (getN_node h0)).1;unfold getNL at this;rw[if_pos h0] at this;exact this
  ·simp
 first|(have:=mda4a5e;exact qda4a5e)|(have:=ma4cdfe;exact qa4cdfe)):p:=h
theorem qbef9af (h:p:=by
 refine tka 0 (.bool F) ?_;have md5f735:=trivial;exact q23e8d2):p:=h
theorem q4f92cc (h:p:=by
 refine tka 0 (.bool false) ?_;have m679eee:=trivial;exact q23e8d2):p:=h
theorem qeb6ca2 (h:p:=by
 clear u1 u2 m0 m1 m2 m3 hx hb;refine wp_region_noPanic ?_;refine wp_region_held_drew (S:=(fun W=>Below wc.heap.size wc W)) (by kernel_rfl) (Below.dr (Below.refl _ _)) (fun hHeld=>?_);change wpAnyH _ _ _ _ _ 78 [false,false,false,false,false,false,false,false,false,false,false,false,false,false,false,false,false,false,false,false,false,false,false,false,false,false,false,false,false,false,false,false,false,false,false,false,false,false,false,false,false,false,false,false,false,false,false,false,false,false,false,false,false,false,false,false,false,false,false,false,false,false,false,false,false,false,false,false,false,false,false,false,false,false,false,false,false,false].toArray _ _
 first|(have:=mbef9af;exact qbef9af)|(have:=m4f92cc;exact q4f92cc)):p:=h
theorem q67190f (h:p:=by
 by_cases hlt:i<l.length
 ·have H1L:TabR 4 (RcOn G n w) w a l.length c (cellsR (.leaf 0 l)):=H1.out
  have m48fd55:=trivial;exact qf53fac
 ·have hin:i=l.length:=by omega
  have q1:decide ((i:Int)<(l.length:Int))=false:=decide_eq_false (by omega);have q2:decide (i<l.length)=false:=decide_eq_false hlt;have hdr:l.drop i=[]:=List.drop_of_length_le (by omega);rw[hdr] at hinv;obtain⟨e1,e2,e3,e4,e5,e6,e7⟩:=hinv;have hlen1:1≤left2.length:=by simp at e5;omega
  have hdn2:(layVs l left).1=dn:=by rw[e3];simp[layVs]
  have hsmE:SmE es:=fun e he=>by
   rw[e2] at he;obtain⟨c9,hc9,rfl⟩:=List.mem_map.1 he;rw[←hdn2] at hc9;obtain⟨c8,h8,h9,h10⟩:=layVs_mem c9 hc9;have:=HBK.out c8 h8;have:=entV_small (c:=c9) (by rw[h9];exact this.1) (by rw[h10];exact this.2);omega
  have m9c52c4:=trivial;exact qf7335c):p:=h
theorem qcb5b26 (h:p:=by
 by_cases hlt:i<l.length
 ·have H1L:TabR 4 (RcOn G n w) w a l.length c (cellsR (.node 0 l)):=H1.out
  have m4f84ea:=trivial;exact qf53fac
 ·have hin:i=l.length:=by omega
  have q1:decide ((i:Int)<(l.length:Int))=false:=decide_eq_false (by omega);have q2:decide (i<l.length)=false:=decide_eq_false hlt;have hdr:l.drop i=[]:=List.drop_of_length_le (by omega);rw[hdr] at hinv;obtain⟨e1,e2,e3,e4,e5,e6,e7⟩:=hinv;have hlen1:1≤left2.length:=by simp at e5;omega
  have hdn2:(layKs (layT n) l left).1=dn:=by rw[e3];simp[layKs]
  have hsmE:SmE es:=fun e he=>by
   rw[e2] at he;obtain⟨c9,hc9,rfl⟩:=List.mem_map.1 he;rw[←hdn2] at hc9;obtain⟨c8,h8,h9⟩:=layKs_mem c9 hc9;have h7:=HBK.out c8 h8;refine⟨?_,by simp[entK]⟩;show c9.1.length≤1000000;rw[h9];omega
  have m968d35:=trivial;exact qf7335c):p:=h
theorem q8c70ab (h:p:=by
 clear HLM HI0;obtain⟨i,vi,ws2,la2,lc2,left2,vC,LL,ys,vE,es,dn,hi,rfl,hLL,hes,hm,hdn,hinv⟩:=hrel;obtain⟨aC,cC,rfl,hcC,hcCm,_⟩:=own_slice hm.rc;obtain⟨aE,cE,rfl,hcE,hcEm,_⟩:=own_slice hm.re;unfold maxLen at hcCm hcEm;have hlt2:=hm.lt;have hsB:=HSB.out;have nbr:∀(o:Nat) (u:Value),wB.cell? ⟨w.heap.size,o,none⟩=some u→wr.cell? ⟨w.heap.size,o,none⟩=some u:=fun o u hu=>(hm.ag.cell (b:=w.heap.size) (o:=o) ⟨by omega,by omega,by omega,fun e=>by have:=(HVG.out _ e).2;omega⟩ (by omega)).trans hu
 have nb1:=nbr 1 _ HNB1.out;have nb2:=nbr 2 _ HNB2.out;have iw2:IntKind.i64.wrap ((i:Int)+1)=(i:Int)+1:=by simp[IntKind.wrap,IntKind.signed,IntKind.bits];omega
 first|(have:=m67190f;exact q67190f)|(have:=mcb5b26;exact qcb5b26)):p:=h
theorem q334f32 (h:p:=by
 refine tkb A54 57 (bif A54 then undef else .slice pa 0 pc) ?_;refine tkb A54 58 (bif A54 then undef else .int .i64 (0:Int)) ?_;refine tkb A54 59 (bif A54 then undef else .bool false) ?_;refine tkb A54 60 (bif A54 then undef else .bool false) ?_;refine tka 61 undef ?_ (hy:=by as_aux_lemma=>(cases A54 with|true=>exact Or.inr ⟨by rfl,rfl⟩|false=>exact Or.inr ⟨by rfl,rfl⟩));refine tka 62 undef ?_ (hy:=by as_aux_lemma=>(cases A54 with|true=>exact Or.inr ⟨by rfl,rfl⟩|false=>exact Or.inr ⟨by rfl,rfl⟩));refine tka 63 undef ?_ (hy:=by as_aux_lemma=>(cases A54 with|true=>exact Or.inr ⟨by rfl,rfl⟩|false=>exact Or.inr ⟨by rfl,rfl⟩));refine tka 64 undef ?_ (hy:=by as_aux_lemma=>(cases A54 with|true=>exact Or.inr ⟨by rfl,rfl⟩|false=>exact Or.inr ⟨by rfl,rfl⟩));refine tka 65 undef ?_ (hy:=by as_aux_lemma=>(cases A54 with|true=>exact Or.inr ⟨by rfl,rfl⟩|false=>exact Or.inr ⟨by rfl,rfl⟩));refine tka 66 undef ?_ (hy:=by as_aux_lemma=>(cases A54 with|true=>exact Or.inr ⟨by rfl,rfl⟩|false=>exact Or.inr ⟨by rfl,rfl⟩));refine tkb A54 67 (bif A54 then undef else .bool false) ?_;refine tka 68 (.bool A54) ?_ (hy:=by as_aux_lemma=>exact Or.inl ⟨by rfl,by(intro W hW;(try dsimp only at hW);(try simp only[cond_true,cond_false]);cases A54;all_goals go_simp<;>(with_reducible rfl))⟩);refine tka 69 (.bool A54) ?_;refine tkb A54 70 (bif A54 then undef else .pointer (some ⟨w.heap.size,1,none⟩)) ?_;refine tkb A54 71 (bif A54 then undef else .bool false) ?_;refine tkb A54 72 (bif A54 then undef else .pointer (some ⟨wr.heap.size,3,none⟩)) ?_;refine tkb A54 73 (bif A54 then undef else .slice (some ⟨bk,okk,none⟩) 1 kc) ?_;refine tkb A54 74 (bif A54 then undef else .int .i64 1) ?_;refine tkb A54 75 (bif A54 then undef else .bool false) ?_;refine tkb A54 76 (bif A54 then undef else .bool false) ?_;refine tka 77 (.bool A54) ?_ (hy:=by as_aux_lemma=>exact Or.inl ⟨by rfl,by(intro W hW;(try dsimp only at hW);(try simp only[cond_true,cond_false]);cases A54;all_goals go_simp<;>(with_reducible rfl))⟩);exact q0fce22):p:=h
theorem q35da61 (h:p:=by
 refine tkb A54 57 (bif A54 then undef else .slice pa pn pc) ?_;refine tkb A54 58 (bif A54 then undef else .int .i64 (pn:Int)) ?_;refine tka 59 (bif A54 then undef else .bool Gp) ?_ (hy:=by as_aux_lemma=>(cases A54 with|true=>exact Or.inr ⟨by rfl,rfl⟩|false=>exact Or.inl ⟨by rfl,by(intro W hW;(try dsimp only at hW);(try simp only[cond_true,cond_false]);obtain rfl:=HGp.out;go_simp<;>(with_reducible rfl))⟩));refine tkb A54 60 (bif A54 then undef else .bool Gp) ?_;refine tkc A54 Gp 61 (bif A54 then undef else (bif Gp then .pointer (some ⟨wr.heap.size,1,none⟩) else undef)) ?_;refine tkc A54 Gp 62 (bif A54 then undef else (bif Gp then .pointer (some ⟨wr.heap.size,1,none⟩) else undef)) ?_;refine tkc A54 Gp 63 (bif A54 then undef else (bif Gp then .string (strOf yv.data) else undef)) ?_;refine tkc A54 Gp 64 (bif A54 then undef else (bif Gp then .int .i64 (dl:Int) else undef)) ?_;cases A54 with
 | true=>
  refine tka 65 undef ?_ (hy:=by as_aux_lemma=>exact Or.inr ⟨by rfl,rfl⟩);refine tka 66 undef ?_ (hy:=by as_aux_lemma=>exact Or.inr ⟨by rfl,rfl⟩);refine tka 67 undef ?_ (hy:=by as_aux_lemma=>exact Or.inr ⟨by rfl,rfl⟩);refine tka 68 (.bool true) ?_;refine tka 69 (.bool true) ?_;refine tka 70 undef ?_ (hy:=by as_aux_lemma=>exact Or.inr ⟨by rfl,rfl⟩);refine tka 71 undef ?_ (hy:=by as_aux_lemma=>exact Or.inr ⟨by rfl,rfl⟩);refine tka 72 undef ?_ (hy:=by as_aux_lemma=>exact Or.inr ⟨by rfl,rfl⟩);refine tka 73 undef ?_ (hy:=by as_aux_lemma=>exact Or.inr ⟨by rfl,rfl⟩);refine tka 74 undef ?_ (hy:=by as_aux_lemma=>exact Or.inr ⟨by rfl,rfl⟩);refine tka 75 undef ?_ (hy:=by as_aux_lemma=>exact Or.inr ⟨by rfl,rfl⟩);refine tka 76 undef ?_ (hy:=by as_aux_lemma=>exact Or.inr ⟨by rfl,rfl⟩);refine tka 77 (.bool true) ?_;exact q0fce22
 | false=>
 cases Gp with
 | false=>
  refine tka 65 undef ?_ (hy:=by as_aux_lemma=>exact Or.inr ⟨by rfl,rfl⟩);refine tka 66 undef ?_ (hy:=by as_aux_lemma=>exact Or.inr ⟨by rfl,rfl⟩);refine tka 67 (.bool false) ?_;refine tka 68 (.bool false) ?_;refine tka 69 (.bool false) ?_;refine tka 70 (.pointer (some ⟨w.heap.size,1,none⟩)) ?_;refine tka 71 (.bool true) ?_;refine tka 72 (.pointer (some ⟨wr.heap.size,3,none⟩)) ?_;refine tka 73 (.slice ka 0 kc) ?_;refine tka 74 (.int .i64 0) ?_;refine tka 75 (.bool true) ?_;refine tka 76 (.bool false) ?_;refine tka 77 (.bool false) ?_;exact q0fce22
 | true=>
 refine rdy 65 (fun K hK=>?_)
 (rw[if_pos (by rfl)];(try simp only[cond_true,cond_false]);go_wp2_with (go_at_call 89;refine(CN _).mono ?_;rintro e w9 ⟨rfl,rfl⟩))
 refine hK.out _ _ (by assumption) (fun hHeld=>?_);clear hK K
 (try simp only[Act.put,List.setIfInBounds_toArray]);(try dsimp only[List.set_cons_zero,List.set_cons_succ])
 refine tka 66 (.bool X7) ?_ (hy:=by as_aux_lemma=>exact Or.inl ⟨by rfl,by(intro W hW;(try dsimp only at hW);(try simp only[cond_true,cond_false]);rcases HX7.out with⟨rfl,p1⟩|⟨rfl,p1⟩;all_goals go_simp<;>(with_reducible rfl))⟩);refine tka 67 (.bool X7) ?_;refine tka 68 (.bool X7) ?_;refine tka 69 (.bool X7) ?_;refine tkb X7 70 (bif X7 then undef else .pointer (some ⟨w.heap.size,1,none⟩)) ?_;refine tkb X7 71 (bif X7 then undef else .bool true) ?_;refine tkb X7 72 (bif X7 then undef else .pointer (some ⟨wr.heap.size,3,none⟩)) ?_;refine tkb X7 73 (bif X7 then undef else .slice ka 0 kc) ?_;refine tkb X7 74 (bif X7 then undef else .int .i64 0) ?_;refine tkb X7 75 (bif X7 then undef else .bool true) ?_;refine tkb X7 76 (bif X7 then undef else .bool false) ?_;refine tka 77 (.bool X7) ?_ (hy:=by as_aux_lemma=>exact Or.inl ⟨by rfl,by(intro W hW;(try dsimp only at hW);(try simp only[cond_true,cond_false]);cases X7;all_goals go_simp<;>(with_reducible rfl))⟩);exact q0fce22):p:=h
theorem q5700d8 (h:p:=by
 refine tka 52 (bif A47 then undef else .bool X6) ?_ (hy:=by as_aux_lemma=>(cases A47 with|true=>exact Or.inr ⟨by rfl,rfl⟩|false=>exact Or.inl ⟨by rfl,by(intro W hW;(try dsimp only at hW);(try simp only[cond_true,cond_false]);obtain rfl:=HX6.out;go_simp<;>(with_reducible rfl))⟩));refine tka 53 (.bool A54) ?_ (hy:=by as_aux_lemma=>exact Or.inl ⟨by rfl,by(intro W hW;(try dsimp only at hW);(try simp only[cond_true,cond_false]);obtain rfl:=HA54.out;cases A47;all_goals go_simp<;>(with_reducible rfl))⟩);refine tka 54 (.bool A54) ?_;refine tkb A54 55 (bif A54 then undef else .pointer (some ⟨wr.heap.size,1,none⟩)) ?_;refine tkb A54 56 (bif A54 then undef else .pointer (some ⟨wr.heap.size,2,none⟩)) ?_
 first|(have:=m334f32;exact q334f32)|(have:=m35da61;exact q35da61)):p:=h
theorem q3e4dd9 (h:p:=by
 obtain⟨k,hk,rfl,rfl⟩:=hrel
 by_cases hlt:k<l.length
 ·rcases h4 with h4|⟨b,off,rfl,hb,hc⟩
  ·omega
  have hck:=hc k hlt;have hsn:=sumI_take_succ l k hlt;have hb1:=(hs.take k).bd;have hb2:=hs.get k;generalize l[k]?.getD 0=x at *;have H:=Hd hsn;clear hsn hc hs
  go_wp2
  go_round
  case rel=>exact⟨k+1,by omega,by go_num,by rw[H.out]⟩
  case measure=>simp[intOf];omega
 ·obtain rfl:k=l.length:=by omega
  simp only[List.take_length];exact q72c811):p:=h
theorem qb83ae1 (h:p:=by
 refine bodyPost_ret (v:=.agg #[.int .i64 p,.bool false,.slice a1 i k1,.slice a2 0 k2,.slice a3 i k3]) (by simp[results,Tryz.results52,go_sem,z0,z1,z2,z3,z4]) rfl ?_;exact HE.out):p:=h
theorem qa99956 (h:p:=by
 refine bodyPost_ret (v:=.agg #[.int .i64 p,.bool true,.slice a1 i k1,.slice a2 i k2,.slice a3 0 k3]) (by simp[results,Tryz.results52,go_sem,z0,z1,z2,z3,z4]) rfl ?_;exact HE.out):p:=h
theorem qc37ea5 (h:p:=by
 have z0:=hrb5.cell 0 0 rfl rfl;have z1:=hrb5.cell 0 1 rfl rfl;have z2:=hrb5.cell 0 2 rfl rfl;have z3:=hrb5.cell 0 3 rfl rfl;have z4:=hrb5.cell 0 4 rfl rfl;have u0:=hrb.frozen 0 0 rfl;have u1:=hrb.frozen 0 1 rfl;have u2:=hrb.frozen 0 2 rfl;have u3:=hrb.frozen 0 3 rfl;have u4:=hrb.frozen 0 4 rfl;have y0:=hrb.cell 0 0 rfl rfl;have y1:=hrb.cell 0 1 rfl rfl;have y2:=hrb.cell 0 2 rfl rfl;have y3:=hrb.cell 0 3 rfl rfl;have y4:=hrb.cell 0 4 rfl rfl;have hrb0:=hrb.lt 0 rfl;have q1:decide ((i:Int)<(gl.length:Int))=false:=decide_eq_false (by omega);have q2:decide (i<gl.length)=false:=decide_eq_false hlt;clear hin hdr haf haf2 hx hrb hrb1 hrb2 hrb3 hrb4 hrb5 hbw hrows hmid;go_wp2_with fail;rw[←hwe]
 first|(have:=mb83ae1;exact qb83ae1)|(have:=ma99956;exact qa99956)):p:=h
theorem q775b33 (h:p:=by
 have hx20:=(hx19.sub (m:=[(wc.heap.size+2,[.int .i64 0,.bool true,.slice av (am+i) dv]),(wc.heap.size+1,[.int .i64 bp,.bool true,.slice (some ⟨eb,eo,none⟩) bm cb]),(w1.heap.size,[.int .i64 p1,.bool l1,.slice a1 m1 c1]),(w.heap.size+1,[.int .i64 0,.bool false,.slice none 0 0]),(w.heap.size,[.int .i64 p,.bool false,.slice (some ⟨b,off,none⟩) m c])]) (by simp)).put 2 (.slice a19 (am+(i+1)) d19) (by simp;omega);have me78e28:=trivial;exact q955292):p:=h
theorem q6a4782 (h:p:=by
 have hx20:=(hx19.sub (m:=[(wc.heap.size+2,[.int .i64 0,.bool lf,.slice av (am+i) dv]),(wc.heap.size+1,[.int .i64 bp,.bool lf,.slice (some ⟨eb,eo,none⟩) bm cb]),(w1.heap.size,[.int .i64 p1,.bool l1,.slice a1 m1 c1]),(w.heap.size+1,[.int .i64 0,.bool false,.slice none 0 0]),(w.heap.size,[.int .i64 p,.bool false,.slice (some ⟨b,off,none⟩) m c])]) (by simp)).put 2 (.slice a19 (am+(i+1)) d19) (by simp;omega);have md1db21:=trivial;exact q955292):p:=h
theorem q3c2959 (h:p:=by
 have m0:=hx16.cell 0 0 rfl rfl;have m1':=hx16.cell 0 1 rfl rfl;have m2':=hx16.cell 0 2 rfl rfl;have m3':=hx16.cell 0 3 rfl rfl;have m4:=hx16.cell 1 2 rfl rfl;obtain⟨v19,w19,hr19,c19,hg19⟩:=c16.append Tryz.underlying25 info_Cw (by omega) HF11.out (by rw[hl19];omega) hy16;have hx19:=hx16.grown hg19 (by intro q hq e;have:=hge _ e;simp at hq;rcases hq with rfl|rfl|rfl|rfl|rfl|rfl<;>omega);have hb19:=hb16.grown hg19 (by omega) (fun k hk=>by have:=hge k hk;omega);obtain⟨a19,d19,ev19,_,_,_,_⟩:=(c19.own HF11.out).sl;rw[List.length_append,hl19,List.length_singleton,Nat.add_assoc] at ev19;subst ev19;have o2:=hx19.cell 1 2 rfl rfl;have o2':=hx19.frozen 1 2 rfl
 first|(have:=m775b33;exact q775b33)|(have:=m6a4782;exact q6a4782)):p:=h
theorem q3270d5 (h:p:=by
 go_wp2_with fail;refine bodyPost_ret (v:=.tuple #[.agg #[.bool true,.slice av gL.length kv],.int .i64 0]) (by simp[results,Tryz.results96,go_sem,g0,g1,g2,g3]) rfl ⟨_,rfl,?_,?_⟩
 ·have hrb:∀i u W,OwnEn W (w3.heap.size+1) (.slice av gL.length kv) gL→OwnEn (W.setCell ⟨w.heap.size,i,none⟩ u) (w3.heap.size+1) (.slice av gL.length kv) gL:=fun i u W hW=>own_set hW _ _ (fun e=>by have h2:=own_ge hW _ e;have h3:w3.heap.size+1≤w.heap.size:=h2;omega)
  exact own_baseC (hrb _ _ _ (hrb _ _ _ HO5)) (by omega)
 ·exact((hbb5.setCell (Nat.le_refl _) _).setCell (Nat.le_refl _) _)):p:=h
theorem qac7a52 (h:p:=by
 go_wp2_with fail;refine bodyPost_ret (v:=.tuple #[.agg #[.bool false,.slice av gL.length kv],.int .i64 0]) (by simp[results,Tryz.results96,go_sem,g0,g1,g2,g3]) rfl ⟨_,rfl,?_,?_⟩
 ·have hrb:∀i u W,OwnEn W (w3.heap.size+1) (.slice av gL.length kv) gL→OwnEn (W.setCell ⟨w.heap.size,i,none⟩ u) (w3.heap.size+1) (.slice av gL.length kv) gL:=fun i u W hW=>own_set hW _ _ (fun e=>by have h2:=own_ge hW _ e;have h3:w3.heap.size+1≤w.heap.size:=h2;omega)
  exact own_baseC (hrb _ _ _ (hrb _ _ _ HO5)) (by omega)
 ·exact((hbb5.setCell (Nat.le_refl _) _).setCell (Nat.le_refl _) _)):p:=h
theorem qc2430f (h:p:=by
 have hgt:¬(2:Int)<(kd:Int):=by omega
 go_wp2_with fail;refine bodyPost_ret (v:=.tuple #[.agg #[.bool gF,.slice av gL.length kv],.int .i64 0]) (by simp[results,Tryz.results101,go_sem,g0,g1,g2,g3]) rfl ⟨_,rfl,?_,?_⟩
 ·have hrb:∀i u W,OwnRe W (w1.heap.size+1) (.slice av gL.length kv) gL→OwnRe (W.setCell ⟨w.heap.size,i,none⟩ u) (w1.heap.size+1) (.slice av gL.length kv) gL:=fun i u W hW=>own_set hW _ _ (fun e=>by have h2:=own_ge hW _ e;have h3:w1.heap.size+1≤w.heap.size:=h2;omega)
  exact own_baseC (hrb _ _ _ (hrb _ _ _ HO5)) (by omega)
 ·exact((hbb5.setCell (Nat.le_refl _) _).setCell (Nat.le_refl _) _)):p:=h
theorem qc8892e (h:p:=by
 clear hn hE hdl HE HL HF;subst hE0 hL hF;go_wp2_with fail;refine CK.mono ?_;rintro e w5 ⟨rfl,hb5⟩;have BY5:=BY.step hb5;have HO5:=HO.out.below (Nat.le_refl _) hb5;have hbb5:=below_then hbb hb5;have hbw5:=below_then hbw hb5;have g0:=BY5.cell 0 0 rfl rfl;have g1:=BY5.cell 0 1 rfl rfl;have g2:=BY5.cell 1 0 rfl rfl;have g3:=BY5.cell 1 1 rfl rfl;have f2:=BY5.frozen 1 0 rfl;have f3:=BY5.frozen 1 1 rfl
 first|(have:=m3270d5;exact q3270d5)|(have:=mac7a52;exact qac7a52)|(have:=mc2430f;exact qc2430f)):p:=h
theorem q6907ba (h:p:=by
 obtain⟨L,h1,h2⟩:=h;have hlen:L.length=l.length:=h2.1
 rcases h1.2 with⟨rfl,h0⟩|⟨g,cap,cur,rfl,hg,hh,hn,hm,hr⟩
 ·have:l=[]:=List.eq_nil_of_length_eq_zero h0
  subst this;exact⟨none,0,rfl,by simp,by omega,⟨rfl,by simp,by unfold maxLen;omega,fun _=>rfl,.inl rfl⟩,.inl rfl⟩
 ·refine⟨_,cap,rfl,hn,by unfold maxLen at hm;omega,?_,Fa.of_own h1 (fun b hb=>hb)⟩
  obtain⟨a',c',e,hr'⟩:=Raw.of_own h1 hlen;cases e;exact hr'.tab h2):p:=h
theorem q5d96fc (h:p:=by
 have BW:=(BV.sub (m:=[(w3.heap.size,[.bool true,v]),(w.heap.size,[.bool false,.slice none 0 0])]) (fun p hp=>List.mem_cons_of_mem _ hp)).grown hg9 (fun p hp=>by
  simp at hp
  rcases hp with rfl|rfl
  ·exact hne1
  ·intro e;have:=own_ge hown7 _ e;have:=HB.out.size;omega)
 exact qeefabc):p:=h
theorem q7e5cc0 (h:p:=by
 have BW:=(BV.sub (m:=[(w3.heap.size,[.bool false,v]),(w.heap.size,[.bool false,.slice none 0 0])]) (fun p hp=>List.mem_cons_of_mem _ hp)).grown hg9 (fun p hp=>by
  simp at hp
  rcases hp with rfl|rfl
  ·exact hne1
  ·intro e;have:=own_ge hown7 _ e;have:=HB.out.size;omega)
 exact qeefabc):p:=h
theorem q1c8a3f (h:p:=by
 have HDT2:=Hd (HDT.out.step HCK.out hD);have hta:=ta_val x w7;unfold vv at hta ⊢;have hsz7:=hbw7.size;have hb8:=below_one w7 (.cells #[.string (strOf x.data),.bool x.far,.int .i64 x.size,.int .i64 x.page] 209);have BV:=BY7.alloc #[.string (strOf x.data),.bool x.far,.int .i64 x.size,.int .i64 x.page] 209 rfl;obtain⟨v9,w9,hr9,ho9,hg9⟩:=append_en (hown7.below (Nat.le_refl _) hb8) ⟨key,x⟩ (by omega) (by simp;omega);obtain⟨a9,k9,rfl,hk91,hk92,hk93⟩:=own_slice ho9;rw[show(es++[⟨key,x⟩]:List En).length=es.length+1 from by simp] at ho9 hr9;have e1:=BV.cell 1 1 rfl rfl;have hne1:v.ownBlock≠some w3.heap.size:=fun e=>by have:=own_ge hown7 _ e;omega
 first|(have:=m5d96fc;exact q5d96fc)|(have:=m7e5cc0;exact q7e5cc0)):p:=h
theorem qf42a29 (h:p:=by
 go_enter Tryz.func47,Tryz.ntmps47;go_wp2_with fail;go_ret;exact⟨ret_int HE.out.symm,rfl⟩):p:=h
theorem qd9c9d7 (h:p:=by
 refine bkw hK (by exact hA) (fun hHeld=>?_);clear hK K;refine rdy 11 (fun K hK=>?_);refine step_append_run rfl _ _ _ _ rfl rfl rfl hr9 ?_;refine bkw hK (by exact h9) (fun hHeld=>?_);clear hK K;refine tks [12,13] ?_;refine rdy 14 (fun K hK=>?_);refine step_store_run rfl 112 _ _ rfl rfl rfl (store_loose c10 f10) ?_;refine hK.out _ _ (by exact h10) (fun hHeld=>?_);clear hK K;refine wpAnyH_done (by kernel_rfl) ?_ _;refine NoPanic.normal ?_;clear hHeld;go_wp2_with fail;go_ret;exact END.out):p:=h
theorem q0fce22 (h:p:=by
 refine wpAnyH_done (by kernel_rfl) ?_ _;refine NoPanic.normal ?_;go_wp2_with fail;go_meet;exact⟨by simp[HBD.out],by first|assumption|exact Below.dr (Below.refl _ _)⟩):p:=h
theorem qea64ca (h:p:=by
 by_cases hc:i<gl.length∧E=0
 ·obtain⟨hlt,hE0⟩:=hc
  have m77a788:=trivial;exact q8e4cb8
 ·obtain⟨wq,rfl⟩:∃x,x=wr:=⟨_,rfl⟩
  have hdq:=hm.ld;have hxq:=hm.box;have hoq:=hm.ol;have htq:=hm.tu;have hvq:vi.ownBlock≠some w.heap.size:=fun e=>(hm.vne e).2.1 rfl
  have m77c24d:=trivial;exact q51be4d):p:=h
theorem qa1b7c5 (h:p:=by
 by_cases hc:i<gl.length∧E=0
 ·obtain⟨hlt,hE0⟩:=hc
  have md7a81e:=trivial;exact q8e4cb8
 ·obtain⟨wq,rfl⟩:∃x,x=wr:=⟨_,rfl⟩
  have hdq:=hm.ld;have hxq:=hm.box;have hoq:=hm.ol;have htq:=hm.tu;have hvq:vi.ownBlock≠some w.heap.size:=fun e=>(hm.vne e).2.1 rfl
  have mc42e10:=trivial;exact q51be4d):p:=h
theorem qa31acf (h:p:=by
 clear HRM HI1 HI2;obtain⟨i,vi,s,E,vL,LL,ys,hi,rfl,hLL,hm,hE1,hE2⟩:=hrel;obtain⟨aL,cL,rfl,_⟩:=own_slice hm.row;have hlt2:=hm.lt;have q5:=HSZB.out;have hs1:=HS1.out;have nbr:∀(o:Nat) (u:Value),wB.cell? ⟨w4.heap.size,o,none⟩=some u→wr.cell? ⟨w4.heap.size,o,none⟩=some u:=fun o u hu=>(hm.ag.cell (b:=w4.heap.size) (o:=o) ⟨by omega,by omega,fun e=>by have:=HV2G.out _ e;omega⟩ (by omega)).trans hu
 have nb0:=nbr 0 _ HNB0.out;have nb1:=nbr 1 _ HNB1.out;have b3:=hm.ld.box.cell 0 3 rfl rfl;have iw2:IntKind.i64.wrap ((i:Int)+1)=(i:Int)+1:=by simp[IntKind.wrap,IntKind.signed,IntKind.bits];omega
 first|(have:=mea64ca;exact qea64ca)|(have:=ma1b7c5;exact qa1b7c5)):p:=h
theorem qcc2f36 (h:p:=by
 have hpg:tv.pages=[]:=HV.out _ hxm;obtain⟨d,pg⟩:=tv;dsimp only at *;subst hpg;have hpn:pn=0:=hrow.1.symm;subst hpn;have hkn:kn=0:=htk.1.symm;subst hkn;obtain⟨wc,hwc⟩:∃x,x=wr.alloc (.cells #[.string (strOf key),.string (strOf d),.slice pa 0 pc,.slice ka 0 kc] 145):=⟨_,rfl⟩
 have hbc:Below wr.heap.size wr wc:=by rw[hwc];exact Below.al (Below.refl _ _)
 have hsc:wc.heap.size=wr.heap.size+1:=by rw[hwc];simp
 have hxc:Boxes wc [(wr.heap.size,[.string (strOf key),.string (strOf d),.slice pa 0 pc,.slice ka 0 kc])]:=by rw[hwc];exact(Boxes.nil wr).alloc #[.string (strOf key),.string (strOf d),.slice pa 0 pc,.slice ka 0 kc] 145 rfl
 have c1:=hxc.cell 0 1 rfl rfl;have c2:=hxc.cell 0 2 rfl rfl;have nc1:=(hbc.cell (p:=⟨w.heap.size,1,none⟩) (show w.heap.size<wr.heap.size by omega)).trans nb1;have hpa:Row .i64 wc pa 0 pc []:=⟨rfl,hrow.2.1,hrow.2.2.1,hrow.2.2.2.1,.inl rfl⟩
 obtain⟨e1,e2,e3,e4,e5,e6,e7⟩:=hinv;have CV:=lvalue_any (hm.ly.below hbc) (by omega) d (by omega) pa pc hpa (by rw[hdr] at e5;simp only[List.map_cons,List.sum_cons] at e5;omega);have HM:=Hd hm;have HLL:=Hd hLL;have HES:=Hd hes;have HBC:=Hd hbc;have HSC:=Hd hsc;have HXC:=Hd hxc;have HDR:=Hd hdr;have HXM:=Hd hxm;have HWC:=Hd hwc;have HDN:=Hd hdn;have HKC:=Hd htk;have HE:=Hd (And.intro e1 (And.intro e2 (And.intro e3 (And.intro e4 (And.intro e5 (And.intro e6 e7))))));clear hm hLL hes hbc hsc hxc hdr hxm hwc hdn hrow htk hfk hyc hx1 hkeep nbr hpa e1 e2 e3 e4 e5 e6 e7 k0 k1 k2 k3;go_upto_region 9 with(fail)
 rw[←HWC.out];go_wp2_with fail;refine CV.mono ?_;rintro e w5 ⟨pa2,pn2,pc2,v5,la5,lc5,rfl,hy5,ho5,ht5,hrow5,hfa5⟩;have m7e3efd:=trivial;exact q384c9b):p:=h
theorem q2d0eeb (h:p:=by
 have hpn:pn=0:=hrow.1.symm;subst hpn;have hkb:Bare tv:=HV.out _ hxm;obtain⟨b2,off2,y2,cs2,rfl,hb2,hy2,hl2,hon2,hcs2⟩:=TabR.at htk (k:=0) (by have h9:([tv]:List Tr).length=kn:=htk.1;simp at h9;omega);have hy3:y2=tv:=by simpa using hy2.symm
 subst hy3;obtain⟨ka',kn',kc',e9⟩:=RNodeOn.open_pos hon2;subst e9;have hkn:0<kn:=by have h9:([y2]:List Tr).length=kn:=htk.1;simp at h9;omega
 have hGk:G b2:=(hfk.resolve_left (by omega)) b2 off2 rfl;have r0:=(hkeep b2 (off2+0*3+0) hGk).trans (hcs2 0 _ rfl);have r1:=(hkeep b2 (off2+0*3+1) hGk).trans (hcs2 1 _ rfl);have r2:=(hkeep b2 (off2+0*3+2) hGk).trans (hcs2 2 _ rfl);simp only[Nat.zero_mul,Nat.add_zero] at r0 r1 r2;have hb2r:b2<wr.heap.size:=Nat.lt_of_lt_of_le (HG.out b2 hGk).1 hm.ol.size;have hkon:RNodeOn G n wr [.int .i64 y2.page,.bool y2.isLeaf,.slice ka' kn' kc'] y2:=hon2.agree ⟨hm.ol.size,fun b' hb' hlt9=>hm.ol.block hlt9 (fun hmm=>by
  rcases RS.mem.1 hmm with e|e
  ·exact(HG.out b' hb').2.1 e
  ·exact(HG.out b' hb').2.2 e)⟩
 have q5:decide ((0:Int)<(kn:Int))=true:=decide_eq_true (by omega);have q6:decide (0<kn)=true:=decide_eq_true hkn;obtain⟨wc,hwc⟩:∃x,x=wr.alloc (.cells #[.string (strOf key),.string (strOf []),.slice pa 0 pc,.slice (some ⟨b2,off2,none⟩) kn kc] 145):=⟨_,rfl⟩
 have hbc:Below wr.heap.size wr wc:=by rw[hwc];exact Below.al (Below.refl _ _)
 have hsc:wc.heap.size=wr.heap.size+1:=by rw[hwc];simp
 have hxc:Boxes wc [(wr.heap.size,[.string (strOf key),.string (strOf []),.slice pa 0 pc,.slice (some ⟨b2,off2,none⟩) kn kc])]:=by rw[hwc];exact(Boxes.nil wr).alloc #[.string (strOf key),.string (strOf []),.slice pa 0 pc,.slice (some ⟨b2,off2,none⟩) kn kc] 145 rfl
 have c3:=hxc.cell 0 3 rfl rfl;have nc1:=(hbc.cell (p:=⟨w.heap.size,1,none⟩) (show w.heap.size<wr.heap.size by omega)).trans nb1;obtain⟨e1,e2,e3,e4,e5,e6,e7⟩:=hinv;have hGw:∀b,G b→b<wc.heap.size∧b≠sb∧vi.ownBlock≠some b:=fun b hb=>by
  have h9:=HG.out b hb;have h8:=hm.ol.size;refine⟨by omega,h9.2.1,fun e=>?_⟩
  rcases hm.tu with t|t
  ·exact h9.2.2 (t ▸ e)
  ·have:=t b e;omega
 have CV:=IH (hm.ly.below hbc) (hkon.agree (AgreeF.of_below hbc)) hGw hkb hbig.2 (by rw[hdr] at e5;simp only[List.map_cons,List.sum_cons] at e5;omega) (by rw[hdr] at e7;simp only[List.map_cons,List.sum_cons] at e7;omega);have s0:=(hbc.cell (p:=⟨b2,off2,none⟩) hb2r).trans r0;have s1:=(hbc.cell (p:=⟨b2,off2+1,none⟩) hb2r).trans r1;have s2:=(hbc.cell (p:=⟨b2,off2+2,none⟩) hb2r).trans r2;obtain⟨yp,hyp⟩:∃x,y2.page=x:=⟨_,rfl⟩
 obtain⟨yl,hyl⟩:∃x,y2.isLeaf=x:=⟨_,rfl⟩
 rw[hyp] at s0 CV;rw[hyl] at s1 CV;obtain⟨RR,hRR⟩:∃x,layT n y2 left2=x:=⟨_,rfl⟩
 rw[hRR] at CV;have HRR:=Hd hRR;clear hGw hkon hyp hyl hRR r0 r1 r2;have HM:=Hd hm;have HLL:=Hd hLL;have HES:=Hd hes;have HBC:=Hd hbc;have HSC:=Hd hsc;have HXC:=Hd hxc;have HDR:=Hd hdr;have HXM:=Hd hxm;have HWC:=Hd hwc;have HDN:=Hd hdn;have HRW:=Hd hrow;have HE:=Hd (And.intro e1 (And.intro e2 (And.intro e3 (And.intro e4 (And.intro e5 (And.intro e6 e7))))));clear hm hLL hes hbc hsc hxc hdr hxm hwc hdn hrow htk hfk hyc hx1 hkeep nbr hkb hon2 hcs2 hy2 e1 e2 e3 e4 e5 e6 e7 k0 k1 k2 k3;go_upto_region 9 with(fail)
 rw[←HWC.out];go_wp2_with fail;refine CV.mono ?_;rintro e w5 ⟨kp,klf,xa,xn,xc,v5,la5,lc5,rfl,hy5,ho5,ht5,hkid5⟩;have mfe8b72:=trivial;exact q384c9b):p:=h
theorem qb73c4b (h:p:=by
 obtain⟨x,hx1,hx2⟩:=Option.map_eq_some_iff.1 hyc;subst hx2;obtain⟨key,tv⟩:=x;dsimp only at *;have hxm:(key,tv)∈l:=List.mem_of_getElem? hx1;have g0:=(hkeep b (off+i*4) hGb).trans k0;have g1:=(hkeep b (off+i*4+1) hGb).trans k1;have g2:=(hkeep b (off+i*4+2) hGb).trans k2;have g3:=(hkeep b (off+i*4+3) hGb).trans k3;have hdr:l.drop i=(key,tv)::l.drop (i+1):=by
  have:=List.getElem?_eq_some_iff.1 hx1;rw[←this.2,List.drop_eq_getElem_cons]
 have q1:decide ((i:Int)<(l.length:Int))=true:=decide_eq_true (by omega);have q2:decide (i<l.length)=true:=decide_eq_true hlt;have hbig:=HBK.out _ hxm
 first|(have:=mcc2f36;exact qcc2f36)|(have:=m2d0eeb;exact q2d0eeb)):p:=h
theorem qa326a8 (h:p:=by
 go_upto_region 10 with(fail)
 try rw[hwx]
 clear hwx
 go_wp2_with (at_builtin;refine wpList_append_run rfl _ _ _ _ rfl rfl rfl hr8 ?_)
 go_roundw
 case rel=>exact⟨i+1,_,hlt,by go_num,HX8.out.put 2 _ (by intro p hp;simp at hp;rcases hp with rfl|rfl<;>simp<;>omega),HC8.out.set _ (by simp) (fun hf=>by have:=hF _ hf;simp at this;omega),HB8.out.setCell (by show w.heap.size≤w.heap.size+1+1;omega) _⟩
 case measure=>simp[intOf];omega):p:=h
theorem q2522cc (h:p:=by
 have HS:Hid ((firstRc key false (cellsR B)).take (i+1)=(firstRc key false (cellsR B)).take i++[⟨key,y.val,y.kid⟩]):=Hd (by rw[hsucc];simp[HI0.out]);clear hx17 c17 hb17 hy17 hx19 hx20 c19 c20 hb19 hg19 hsucc hl19 hs16 hs17;exact qe02527):p:=h
theorem qd1db21 (h:p:=by
 have HS:Hid ((firstRc key lf (cellsR B)).take (i+1)=(firstRc key lf (cellsR B)).take i++[y]):=Hd (by rw[hsucc];simp[HI0.out]);clear hx16 c16 hb16 hy16 hx19 hx20 c19 c20 hb19 hg19 hsucc hl19 hs16;exact qe02527):p:=h
theorem qe78e28 (h:p:=by
 have HS:Hid ((firstRc key true (cellsR B)).take (i+1)=(firstRc key true (cellsR B)).take i++[y]):=Hd (by rw[hsucc];simp[HI0.out]);clear hx16 c16 hb16 hy16 hx19 hx20 c19 c20 hb19 hg19 hsucc hl19 hs16;exact qe02527):p:=h
theorem q955292 (h:p:=by
 have c20:=c19.set (p:=⟨wc.heap.size+2,2,none⟩) (.slice a19 (am+(i+1)) d19) (fun e=>by have:W11.heap.size≤wc.heap.size+2:=(c19.ge e).1;omega) (fun hf=>by have:wc.heap.size+2<w.heap.size:=hF _ hf;omega);have HX20:=Hd hx20;have HC20:=Hd c20;have HB20:=Hd (hb19.setCell (p:=⟨wc.heap.size+2,2,none⟩) (by simp;omega) (.slice a19 (am+(i+1)) d19))
 first|(have:=m2522cc;exact q2522cc)|(have:=md1db21;exact qd1db21)|(have:=me78e28;exact qe78e28)):p:=h
theorem q71d1c8 (h:p:=by
 have C1:=rput_any key d (fun b hb=>by have:=hF b hb;omega) (h.below hb2) ho;obtain⟨T,hT⟩:∃x,putT (N+1) t key ⟨d,[]⟩=x:=⟨_,rfl⟩
 have HT:Hid (putW (N+1) t key ⟨d,[]⟩=topT (N+1) T):=Hd (by rw[←hT];rfl);rw[hT] at C1 ht;have n0:=hx2.cell 1 0 rfl rfl;have n1:=hx2.cell 1 1 rfl rfl;have n2:=hx2.cell 1 2 rfl rfl;have HX:=Hd hx2;have HB:=Hd hb2;have HTO:=Hd ht;clear h ho ht hx2 hb2 hlf hp hm hT;show Calls _ _ #[.agg #[.int .i64 p,.bool lf,.slice a m c],.string (strOf key),.string (strOf d)] _ _;go_enter Tryz.func42,Tryz.ntmps42;go_wp2_with fail;refine C1.mono ?_;rintro e w1 hq;obtain⟨p1,l1,a1,m1,d1,rfl,hn1,hb1⟩:=hq.split;have C2:=rtop_any (F:=fun x=>Fr F W2 x∧x<w1.heap.size) (fun _ h=>h.2) hn1.lt HTO.out;have hx1:=HX.out.step hb1;have hbw1:=below_via HB.out hb1;have hs1:w.heap.size+2≤w1.heap.size:=by have:=hb1.size;omega
 have HX1:=Hd hx1;have HB1:=Hd hbw1;clear C1 hn1 hb1 hx1 hbw1 n0 n1 n2 hW2 hq;go_wp2_with fail;refine C2.mono ?_;rintro e w2 hq;obtain⟨p2,l2,a2,m2,d2,rfl,hn2,hb2⟩:=hq.split;have hx2:=HX1.out.step hb2;have z0:=hx2.cell 0 0 rfl rfl;have z1:=hx2.cell 0 1 rfl rfl;have z2:=hx2.cell 0 2 rfl rfl;have y0:=hx2.frozen 0 0 rfl;have y1:=hx2.frozen 0 1 rfl;have y2:=hx2.frozen 0 2 rfl;obtain⟨t0,t1,t2,HE⟩:=rend (F:=F) (w:=w) (hx2.sub (m:=[(w.heap.size+1,[.int .i64 0,.bool false,.slice none 0 0])]) (by simp)) (by omega) (fun hg=>by
  rcases hg with hg|hg
  ·rcases hg.1 with hg|hg
   ·have:=hF _ hg;omega
   ·omega
  ·omega) (fun b hb=>by
  rcases hb with hb|hb
  ·rcases hb.1 with hb|hb
   ·exact .inl hb
   ·exact .inr (by omega)
  ·exact .inr (by omega)) hn2 (below_via HB1.out hb2)
 clear hx2 hn2 hb2 hq C2;go_wp2_with fail;refine bodyPost_ret (v:=.agg #[.int .i64 p2,.bool l2,.slice a2 m2 d2]) (by simp only[results,Tryz.results42];simp[go_sem,t0,t1,t2]) rfl ?_;rw[HT.out];exact HE.out):p:=h
theorem q9681f1 (h:p:=by
 have n0:=hx2.cell 1 0 rfl rfl;have n1:=hx2.cell 1 1 rfl rfl;have n2:=hx2.cell 1 2 rfl rfl;have HX2:=Hd hx2;have HB2:=Hd hb2;have HR:=Hd h1;have HLF:=Hd hlf;have HM:=Hd hm;have HO1:=Hd o1;have HO2:=Hd o2;have HO3:=Hd o3;have hF2:∀b,F b→b<W2.heap.size:=fun b hb=>by have:=hF b hb;omega
 clear hx2 hb2 h1 h hlf hp hm o1 o2 o3;show Calls _ _ #[.agg #[.int .i64 p,.bool lf,.slice a m c]] _ _
 by_cases hkid:lf=false∧m=1
 ·obtain⟨rfl,rfl⟩:=hkid
  cases t with
  | leaf p0 l=>have:=HLF.out;simp[Tr.isLeaf] at this
  | node p0 l=>
  have hl1:l.length=1:=HM.out;obtain⟨b,off,bk,ok,kcs,pa,pn,pc,kc,rfl,hbb,hbk,hon,d0,d1,d2,d3,hck,hkc1,hkc2⟩:=RNodeOn.kid HR.out (show 0<1 by omega);have CT:=IH hF2 (hon.below HB2.out) (HO3.out p0 l rfl hl1);have HTE:Hid (topT (N+1) (.node p0 l)=topT N (kidAt l 0)):=Hd (topT_kid hl1);cases N with
  | zero=>exact hon.elim
  | succ N=>
  obtain⟨ak,ck,rfl,_,_⟩:=hon.at;generalize (kidAt l 0).page=kp at *;generalize (kidAt l 0).isLeaf=kl at *;generalize cntT (kidAt l 0)=km at *;have v3:W2.cell? ⟨b,off+3,none⟩=some (.slice (some ⟨bk,ok,none⟩) 1 kc):=(HB2.out.cell (p:=⟨b,off+3,none⟩) hbb).trans (by simpa using d3);have k0:W2.cell? ⟨bk,ok,none⟩=some (.int .i64 kp):=(HB2.out.cell (p:=⟨bk,ok,none⟩) hbk).trans (by simpa using hck 0 _ rfl);have k1:W2.cell? ⟨bk,ok+1,none⟩=some (.bool kl):=(HB2.out.cell (p:=⟨bk,ok+1,none⟩) hbk).trans (by simpa using hck 1 _ rfl);have k2:W2.cell? ⟨bk,ok+2,none⟩=some (.slice ak km ck):=(HB2.out.cell (p:=⟨bk,ok+2,none⟩) hbk).trans (by simpa using hck 2 _ rfl);clear hon d0 d1 d2 d3 hck IH hl1;go_enter Tryz.func87,Tryz.ntmps87;go_wp2_with fail;refine CT.mono ?_;rintro e w1 hq;obtain⟨p1,l1,a1,m1,d1,rfl,hn1,hb1⟩:=hq.split;have hx1:=HX2.out.step hb1;have hbw1:=below_via HB2.out hb1;have z0:=hx1.cell 0 0 rfl rfl;have z1:=hx1.cell 0 1 rfl rfl;have z2:=hx1.cell 0 2 rfl rfl;have y0:=hx1.frozen 0 0 rfl;have y1:=hx1.frozen 0 1 rfl;have y2:=hx1.frozen 0 2 rfl;obtain⟨t0,t1,t2,HE⟩:=rend (F:=F) (w:=w) (hx1.sub (m:=[(w.heap.size+1,[.int .i64 0,.bool false,.slice none 0 0])]) (by simp)) (by omega) (fun hg=>by rcases hg with hg|hg;have:=hF _ hg;omega;omega) (fun b hb=>by rcases hb with hb|hb;exact .inl hb;exact .inr (by omega)) (hn1.more (show N+1+1≤N+1+1+1 by omega)) hbw1;clear hx1 hn1 hb1 hbw1 hq CT;exact q03511a
 have CS:=rsizes_any (H.out.below HB2.out) HO1.out;have HSM:=Hd (HO1.out.small);obtain⟨S,hS⟩:∃x,sizesT t=x:=⟨_,rfl⟩
 rw[hS] at CS HSM;have HNK:Hid (∀p l,t=.node p l→l.length≠1):=Hd (fun q l e h1=>hkid (by subst e;exact⟨HLF.out.symm,by rw[←HM.out];exact h1⟩));have HS:=Hd hS;clear IH hS;have hlm:lf=true∨(lf=false∧((m:Int) == 1)=false):=by
  cases lf with
  | true=>exact .inl rfl
  | false=>exact .inr ⟨rfl,by simp at hkid;simp;omega⟩
 clear hkid
 rcases hlm with rfl|⟨rfl,hm1⟩
 ·go_enter Tryz.func87,Tryz.ntmps87
  have ma87fe9:=trivial;exact q3639fe
 ·go_enter Tryz.func87,Tryz.ntmps87
  have m53b955:=trivial;exact q3639fe):p:=h
theorem qa4f6b9 (h:p:=by
 obtain⟨W2,hW2⟩:∃x,(w.alloc (.cells #[.int .i64 p,.bool lf,.slice a m c] 27)).alloc (.cells #[.int .i64 0,.bool false,.slice none 0 0] 27)=x:=⟨_,rfl⟩
 have hb2:Below w.heap.size w W2:=by rw[←hW2];exact Below.al (Below.al (Below.refl _ _))
 have hx2:Boxes W2 [(w.heap.size+1,[.int .i64 0,.bool false,.slice none 0 0]),(w.heap.size,[.int .i64 p,.bool lf,.slice a m c])]:=by
  rw[←hW2];exact((Boxes.nil w).alloc #[.int .i64 p,.bool lf,.slice a m c] 27 (b:=w.heap.size) rfl).alloc #[.int .i64 0,.bool false,.slice none 0 0] 27 (b:=w.heap.size+1) (by simp)
 have hsz2:W2.heap.size=w.heap.size+2:=by rw[←hW2];simp
 first|(have:=m71d1c8;exact q71d1c8)|(have:=m9681f1;exact q9681f1)):p:=h
theorem q4419a1 (h:p:=by
 have hpb:pageB e.v.page=false:=by simp[pageB];omega
 have HF:Hid (nodeB false l=false):=Hd (HNS.out (by rw[HST.out];simp[valOkN,hpb]));exact qbe6c73):p:=h
theorem qaecd3a (h:p:=by
 have E:=tempty_any w1 (fun _=>False);have hz:=zero_nodeL;have HX1:=Hd hx1;have HB1:=Hd hb1;clear hx1 hb1 hR
 go_enter_defers Tryz.func15,Tryz.ntmps15
 go_wp2_with fail;refine E.mono ?_;rintro e w2 ⟨cs,rfl,hon,hb2⟩;obtain⟨ka,kc,va,vn,vc,ca,cn,cc,_,_,eu,_⟩:=NodeOn.open_pos hon;subst eu;have hx2:=HX1.out.step hb2;have f0:=hx2.frozen 1 0 rfl;have f1:=hx2.frozen 1 1 rfl;have f2:=hx2.frozen 1 2 rfl;have f3:=hx2.frozen 1 3 rfl;have f4:=hx2.frozen 1 4 rfl;have fe:=hx2.frozen 0 0 rfl;have c0:=hx2.cell 1 0 rfl rfl;have c1:=hx2.cell 1 1 rfl rfl;have c2:=hx2.cell 1 2 rfl rfl;have c3:=hx2.cell 1 3 rfl rfl;have c4:=hx2.cell 1 4 rfl rfl;have ce:=hx2.cell 0 0 rfl rfl;have hx3:=load_set hx2 (by omega) (.int .i64 0) (.bool true) (.slice ka 0 kc) (.slice va vn vc) (.slice ca cn cc) 0;obtain⟨we,hwe⟩:∃x,x=(set5 w2 w.heap.size (.int .i64 0) (.bool true) (.slice ka 0 kc) (.slice va vn vc) (.slice ca cn cc)).setCell ⟨w.heap.size+1,0,none⟩ (.int .i64 0):=⟨_,rfl⟩
 rw[←hwe] at hx3;have z0:=hx3.cell 0 0 rfl rfl;have z1:=hx3.cell 0 1 rfl rfl;have z2:=hx3.cell 0 2 rfl rfl;have z3:=hx3.cell 0 3 rfl rfl;have z4:=hx3.cell 0 4 rfl rfl;have ze:=hx3.cell 1 0 rfl rfl;have hbe:Below w.heap.size w we:=by
  have h1:=HB1.out.trans (hb2.mono HB1.out.size);rw[hwe];exact(set5_below h1 (Nat.le_refl _) _ _ _ _ _).setCell (Nat.le_succ _) _
 have HE:Hid (LoadPost w (.ok (.leaf 0 [])) (.returned (.tuple #[.agg #[.int .i64 0,.bool true,.slice ka 0 kc,.slice va vn vc,.slice ca cn cc],.int .i64 0])) we):=Hd ⟨hbe,[.int .i64 0,.bool true,.slice ka 0 kc,.slice va vn vc,.slice ca cn cc],rfl,by
  have hag:AgreeF (Fr (fun _=>False) w1) w2 we:=by
   rw[hwe];have hsz:=HX1.out.lt 0 rfl;exact agree_res (by rintro(h|h);exact h;have h:w1.heap.size≤w.heap.size:=h;have hsz:w.heap.size+1<w1.heap.size:=hsz;omega) (by rintro(h|h);exact h;have h:w1.heap.size≤w.heap.size+1:=h;have hsz:w.heap.size+1<w1.heap.size:=hsz;omega)
  exact NodeOn.mono (n:=1000) (fun b hb=>by rcases hb with hb|hb;exact hb.elim;have hb:w1.heap.size≤b:=hb;have hsz:w.heap.size+1<w1.heap.size:=HX1.out.lt 0 rfl;omega) (hon.agree hag)⟩
 clear hx2 hx3 hbe hb2 hon;go_wp2_with fail;change bodyPostD Tryz.prog _ _ Exit.ret _ ((set5 w2 w.heap.size (.int .i64 0) (.bool true) (.slice ka 0 kc) (.slice va vn vc) (.slice ca cn cc)).setCell ⟨w.heap.size+1,0,none⟩ (.int .i64 0));rw[←hwe];exact⟨.tuple #[.agg #[.int .i64 0,.bool true,.slice ka 0 kc,.slice va vn vc,.slice ca cn cc],.int .i64 0],by simp[results,Tryz.results15,go_sem,z0,z1,z2,z3,z4,ze],HE.out⟩):p:=h
theorem q3f8118 (h:p:=by
 have hs1:w1.heap.size=w.heap.size+2:=by rw[←hw1];simp
 obtain⟨w3,hw3⟩:∃w3,(w1.alloc (.map #[] 0)).alloc (.cells #[.pointer (some ⟨da,0,none⟩),.int .i64 r,.map (some w1.heap.size)] 134)=w3:=⟨_,rfl⟩
 have hb13:Below w1.heap.size w1 w3:=by rw[←hw3];exact Below.al (Below.al (Below.refl _ _))
 have hs3:w3.heap.size=w.heap.size+4:=by rw[←hw3];simp;omega
 have hld:LdIn w3.heap.size w3 (w1.heap.size+1) w1.heap.size da M d r []:=by
  have hbw:Below w.heap.size w w3:=hb1.trans (hb13.mono (by omega));obtain⟨F,bs,k1,k2,k3⟩:=h;refine⟨?_,?_,⟨F,bs,k1.below hbw,fun hF=>?_,fun k hk=>?_⟩,by omega,hh.below (Nat.le_refl _) hbw,?_,by omega,by omega,?_⟩
  ·rw[←hw3]
   have:=World.alloc_heap_new (w1.alloc (.map #[] 0)) (.cells #[.pointer (some ⟨da,0,none⟩),.int .i64 r,.map (some w1.heap.size)] 134);simpa using this
  ·have:=CtMap.made w1
   rw[←hw3];exact this.kept ((Below.al (Below.refl (w1.alloc (.map #[] 0)).heap.size (w1.alloc (.map #[] 0)))).block w1.heap.size (by simp))
  ·have:=k1.lt _ hF;omega
  ·have:=k1.lt _ hk;omega
  ·have:=hh.1;omega
  ·have:=hh.1;omega
 have P:=lpage_any 1000 hld (Nat.le_refl _) SeenOk.nil (by rw[roomL_nil];omega) hr h0;have hz:=zero_nodeL;have hmm:=@run_makeMap Tryz.prog;have hmf:∀(fn:Fn) (first cap:Array Value) (w:World),(Instr.makeFunc fn first cap).run Tryz.prog w=.ok (.func fn first cap) w:=fun _ _ _ _=>rfl
 have HX1:=Hd hx1;have HX3:=Hd (hx1.step hb13);have HB1:=Hd hb1;have HB13:=Hd hb13;have HR0:=Hd hR0;have HS1:=Hd hs1;have HS3:=Hd hs3;have q0:(root == 0)=false:=by simpa using h0
 clear hx1 hb1 hR hR0 hb13 hs1 hs3 hld h hh
 go_enter_defers Tryz.func15,Tryz.ntmps15
 go_wp2_with fail;refine P.mono ?_;rintro e w4 ⟨ho,hres⟩;have hs4:=ho.size;have hs1:=HS1.out;have hs3:=HS3.out;have hx4:=HX3.out.only ho (by intro q hq;simp at hq;rcases hq with rfl|rfl<;>simp<;>omega);have hb4:Below w.heap.size w w4:=by
  have h3:=HB1.out.trans (HB13.out.mono (show w.heap.size≤w1.heap.size by omega));exact h3.trans (ho.below (by omega) (by simp;omega))
 cases hT:loadT d r 1000 [] root with
 | error x=>
  rw[hT] at hres;have hres:e=.panicked (errP x):=hres;subst hres;have hR0:=HR0.out;rw[hT] at hR0;subst hR0;refine leaves_cons (f:=51) (args := #[.pointer (some ⟨w.heap.size,0,none⟩),.pointer (some ⟨w.heap.size+1,0,none⟩)]) (by simp) (by simp[go_sem]) ?_;have hx4c:Boxes w4 [(w.heap.size,[.int .i64 0,.bool false,.slice none 0 0,.slice none 0 0,.slice none 0 0]),(w.heap.size+1,[.int .i64 0])]:=hx4.sub (by intro q hq;simp at hq ⊢;rcases hq with rfl|rfl<;>simp);refine(recover_caught w.heap.size (w.heap.size+1) x 0 [] w4 hx4c (by omega)).mono ?_;rintro e u' w'' ⟨rfl,rfl,rfl⟩;have hx5:=load_set hx4 (by omega) (.int .i64 0) (.bool false) (.slice none 0 0) (.slice none 0 0) (.slice none 0 0) x;obtain⟨we,hwe⟩:∃y,y=(set5 w4 w.heap.size (.int .i64 0) (.bool false) (.slice none 0 0) (.slice none 0 0) (.slice none 0 0)).setCell ⟨w.heap.size+1,0,none⟩ (.int .i64 x):=⟨_,rfl⟩
  rw[←hwe] at hx5 ⊢;have z0:=hx5.cell 0 0 rfl rfl;have z1:=hx5.cell 0 1 rfl rfl;have z2:=hx5.cell 0 2 rfl rfl;have z3:=hx5.cell 0 3 rfl rfl;have z4:=hx5.cell 0 4 rfl rfl;have ze:=hx5.cell 1 0 rfl rfl;have hbe:Below w.heap.size w we.drew:=by
   rw[hwe];exact Below.dr ((set5_below hb4 (Nat.le_refl _) _ _ _ _ _).setCell (Nat.le_succ _) _)
  refine⟨.tuple #[.agg #[.int .i64 0,.bool false,.slice none 0 0,.slice none 0 0,.slice none 0 0],.int .i64 x],by simp[results,Tryz.results15,go_sem,z0,z1,z2,z3,z4,ze],?_⟩;exact⟨hbe,rfl⟩
 | ok y=>
  obtain⟨s,t⟩:=y;rw[hT] at hres;obtain⟨cs,rfl,hon,hld⟩:=hres;obtain⟨ka,kc,va,vn,vc,ca,cn,cc,_,_,eu,_⟩:=NodeOn.open_pos hon;subst eu;obtain⟨w5,hw5⟩:∃x,x=set5 w4 w.heap.size (.int .i64 t.page) (.bool t.isLeaf) (.slice ka (cntT t) kc) (.slice va vn vc) (.slice ca cn cc):=⟨_,rfl⟩
  have hx4r:Boxes w4 [(w.heap.size,[.int .i64 0,.bool false,.slice none 0 0,.slice none 0 0,.slice none 0 0]),(w.heap.size+1,[.int .i64 0])]:=hx4.sub (by intro q hq;simp at hq ⊢;rcases hq with rfl|rfl<;>simp);have hx5:Boxes w5 [(w.heap.size,[.int .i64 t.page,.bool t.isLeaf,.slice ka (cntT t) kc,.slice va vn vc,.slice ca cn cc]),(w.heap.size+1,[.int .i64 0])]:=by rw[hw5];exact set5_box hx4r (by intro q hq;simp at hq;subst hq;simp) _ _ _ _ _
  have hb45:Below w.heap.size w4 w5:=by rw[hw5];exact set5_below (Below.refl _ _) (Nat.le_refl _) _ _ _ _ _
  have hag5:AgreeF (fun b=>w3.heap.size≤b) w4 w5:=by
   rw[hw5];unfold set5;have hnb:¬(w3.heap.size≤w.heap.size):=by omega
   exact((((AgreeF.refl w4).set (.inl hnb)).set (.inl hnb)).set (.inl hnb)).set (.inl hnb) |>.set (.inl hnb)
  have hon5:=hon.agree hag5;have C:=tcheck_any hon5.toIn (loadT_small hT) (by omega);have f0:=hx4r.frozen 0 0 rfl;have f1:=hx4r.frozen 0 1 rfl;have f2:=hx4r.frozen 0 2 rfl;have f3:=hx4r.frozen 0 3 rfl;have f4:=hx4r.frozen 0 4 rfl;have c0:=hx4r.cell 0 0 rfl rfl;have c1:=hx4r.cell 0 1 rfl rfl;have c2:=hx4r.cell 0 2 rfl rfl;have c3:=hx4r.cell 0 3 rfl rfl;have c4:=hx4r.cell 0 4 rfl rfl;have d0:=hx5.cell 0 0 rfl rfl;have d1:=hx5.cell 0 1 rfl rfl;have d2:=hx5.cell 0 2 rfl rfl;have d3:=hx5.cell 0 3 rfl rfl;have d4:=hx5.cell 0 4 rfl rfl;unfold set5 at hw5;have hw5':=hw5.symm;have HON5:=Hd hon5;have HX5:=Hd hx5;have HB4:=Hd hb4;have HB45:=Hd hb45;have HT:=Hd hT;generalize t.page=tp at *;generalize t.isLeaf=tl at *;generalize cntT t=tn at *;clear hw5 hx4 hx4r hx5 hb4 hb45 hag5 hon hon5 hT hld ho P;go_wp2_with fail;refine C.mono ?_;rintro e w6 ⟨rfl,hb6⟩;have hx6:=HX5.out.step hb6;have hx6b:Boxes w6 [(w.heap.size+1,[.int .i64 0]),(w.heap.size,[.int .i64 tp,.bool tl,.slice ka tn kc,.slice va vn vc,.slice ca cn cc])]:=hx6.sub (by intro q hq;simp at hq ⊢;rcases hq with rfl|rfl<;>simp);have hb56:Below w.heap.size w w6:=(HB4.out.trans HB45.out).trans (hb6.mono (HB4.out.trans HB45.out).size);have HB56:=Hd hb56;have HR1:=HR0.out;rw[HT.out] at HR1;cases hc:checkT 1000 t with
  | true=>
   have hRt:R=.ok t:=by rw[←HR1];simp[hc]
   have g0:=hx6.frozen 0 0 rfl;have g1:=hx6.frozen 0 1 rfl;have g2:=hx6.frozen 0 2 rfl;have g3:=hx6.frozen 0 3 rfl;have g4:=hx6.frozen 0 4 rfl;have ge:=hx6.frozen 1 0 rfl;have b0:=hx6.cell 0 0 rfl rfl;have b1:=hx6.cell 0 1 rfl rfl;have b2:=hx6.cell 0 2 rfl rfl;have b3:=hx6.cell 0 3 rfl rfl;have b4:=hx6.cell 0 4 rfl rfl;have be:=hx6.cell 1 0 rfl rfl;have hx7:=load_set hx6b (by omega) (.int .i64 tp) (.bool tl) (.slice ka tn kc) (.slice va vn vc) (.slice ca cn cc) 0;obtain⟨we,hwe⟩:∃y,y=(set5 w6 w.heap.size (.int .i64 tp) (.bool tl) (.slice ka tn kc) (.slice va vn vc) (.slice ca cn cc)).setCell ⟨w.heap.size+1,0,none⟩ (.int .i64 0):=⟨_,rfl⟩
   rw[←hwe] at hx7;have HX7:=Hd hx7;have HE:Hid (LoadPost w R (.returned (.tuple #[.agg #[.int .i64 tp,.bool tl,.slice ka tn kc,.slice va vn vc,.slice ca cn cc],.int .i64 0])) we):=Hd (by
    rw[hRt];refine⟨?_,[.int .i64 tp,.bool tl,.slice ka tn kc,.slice va vn vc,.slice ca cn cc],rfl,?_⟩
    ·rw[hwe];exact(set5_below hb56 (Nat.le_refl _) _ _ _ _ _).setCell (Nat.le_succ _) _
    ·have h1:NodeOn (fun b=>w3.heap.size≤b) 1000 w6 _ t:=HON5.out.agree (AgreeF.of_below hb6)
     refine NodeOn.mono (fun b hb=>?_) (h1.agree (by rw[hwe];exact agree_res (show ¬(w3.heap.size≤w.heap.size) by omega) (show ¬(w3.heap.size≤w.heap.size+1) by omega)));have hb:w3.heap.size≤b:=hb;omega)
   clear hx6 hx6b hb56 hx7 hb6 HR1 hRt c0 c1 c2 c3 c4 d0 d1 d2 d3 d4 f0 f1 f2 f3 f4;go_wp2_with fail;change bodyPostD Tryz.prog _ _ Exit.ret _ ((set5 w6 w.heap.size (.int .i64 tp) (.bool tl) (.slice ka tn kc) (.slice va vn vc) (.slice ca cn cc)).setCell ⟨w.heap.size+1,0,none⟩ (.int .i64 0));rw[←hwe];refine leaves_cons (f:=51) (args := #[.pointer (some ⟨w.heap.size,0,none⟩),.pointer (some ⟨w.heap.size+1,0,none⟩)]) (by simp) (by simp[go_sem]) ?_;refine(recover_idle ⟨w.heap.size,0,none⟩ ⟨w.heap.size+1,0,none⟩ we).mono ?_;rintro e u' w'' ⟨rfl,rfl,rfl⟩;have z0:=HX7.out.cell 0 0 rfl rfl;have z1:=HX7.out.cell 0 1 rfl rfl;have z2:=HX7.out.cell 0 2 rfl rfl;have z3:=HX7.out.cell 0 3 rfl rfl;have z4:=HX7.out.cell 0 4 rfl rfl;have ze:=HX7.out.cell 1 0 rfl rfl;exact⟨.tuple #[.agg #[.int .i64 tp,.bool tl,.slice ka tn kc,.slice va vn vc,.slice ca cn cc],.int .i64 0],by simp[results,Tryz.results15,go_sem,z0,z1,z2,z3,z4,ze],HE.out⟩
  | false=>
   have hRt:R=.error 11:=by rw[←HR1];simp[hc]
   subst hRt;have HX6:=Hd hx6;have HX6B:=Hd hx6b;clear hx6 hx6b hb56 hb6 HR1 c0 c1 c2 c3 c4 d0 d1 d2 d3 d4 f0 f1 f2 f3 f4;go_wp2_with fail;refine leaves_cons (f:=51) (args := #[.pointer (some ⟨w.heap.size,0,none⟩),.pointer (some ⟨w.heap.size+1,0,none⟩)]) (by simp) (by simp[go_sem]) ?_;refine(recover_caught w.heap.size (w.heap.size+1) 11 0 [] w6 HX6.out (by omega)).mono ?_;rintro e u' w'' ⟨rfl,rfl,rfl⟩;have hx5:=load_set HX6B.out (by omega) (.int .i64 0) (.bool false) (.slice none 0 0) (.slice none 0 0) (.slice none 0 0) 11;obtain⟨we,hwe⟩:∃y,y=(set5 w6 w.heap.size (.int .i64 0) (.bool false) (.slice none 0 0) (.slice none 0 0) (.slice none 0 0)).setCell ⟨w.heap.size+1,0,none⟩ (.int .i64 11):=⟨_,rfl⟩
   rw[←hwe] at hx5 ⊢;have z0:=hx5.cell 0 0 rfl rfl;have z1:=hx5.cell 0 1 rfl rfl;have z2:=hx5.cell 0 2 rfl rfl;have z3:=hx5.cell 0 3 rfl rfl;have z4:=hx5.cell 0 4 rfl rfl;have ze:=hx5.cell 1 0 rfl rfl;have hbe:Below w.heap.size w we.drew:=by
    rw[hwe];exact Below.dr ((set5_below HB56.out (Nat.le_refl _) _ _ _ _ _).setCell (Nat.le_succ _) _)
   exact⟨.tuple #[.agg #[.int .i64 0,.bool false,.slice none 0 0,.slice none 0 0,.slice none 0 0],.int .i64 11],by simp[results,Tryz.results15,go_sem,z0,z1,z2,z3,z4,ze],hbe,rfl⟩):p:=h
theorem qc14425 (h:p:=by
 rw[hR];obtain⟨w1,hw1⟩:∃w1,(w.alloc (.cells #[.int .i64 0,.bool false,.slice none 0 0,.slice none 0 0,.slice none 0 0] 50)).alloc (.cells #[.int .i64 0] 32)=w1:=⟨_,rfl⟩
 have hx1:Boxes w1 [(w.heap.size+1,[.int .i64 0]),(w.heap.size,[.int .i64 0,.bool false,.slice none 0 0,.slice none 0 0,.slice none 0 0])]:=by
  rw[←hw1];exact((Boxes.nil w).alloc #[.int .i64 0,.bool false,.slice none 0 0,.slice none 0 0,.slice none 0 0] 50 (b:=w.heap.size) rfl).alloc #[.int .i64 0] 32 (b:=w.heap.size+1) (by simp)
 have hb1:Below w.heap.size w w1:=by rw[←hw1];exact Below.al (Below.al (Below.refl _ _))
 first|(have:=maecd3a;exact qaecd3a)|(have:=m3f8118;exact q3f8118)):p:=h
theorem q9715df (h:p:=by
 refine bkw hK (by with_reducible assumption) (fun hHeld=>?_);clear hK K;refine tks [4,5] ?_;refine tkn [6,7] ?_;refine tkn [8,9] ?_;refine tkn [10,11] ?_;refine tkn [12,13] ?_;refine tkn [14,15] ?_;refine tkn [16,17] ?_;refine tkn [18,19] ?_;refine tks [20] ?_;refine wpAnyH_done (by kernel_rfl) ?_ _;refine NoPanic.normal ?_;have hb8:=below_then hbw6 hC7;exact q432908):p:=h
theorem q587032 (h:p:=by
 refine bodyPost_ret (v:=.agg #[.int .i64 p,.bool true,.slice a m c]) (by simp only[results,Tryz.results87];simp[go_sem,t0,t1,t2]) rfl ?_;rw[HTE.out];exact HE.out):p:=h
theorem q7e1cf3 (h:p:=by
 refine bodyPost_ret (v:=.agg #[.int .i64 p,.bool false,.slice a m c]) (by simp only[results,Tryz.results87];simp[go_sem,t0,t1,t2]) rfl ?_;rw[HTE.out];exact HE.out):p:=h
theorem q4a8d51 (h:p:=by
 have HTE:Hid (topT (N+1) t=t):=Hd (topT_same HNK.out (by rw[HS.out];exact hz));have z0:=hx4.cell 0 0 rfl rfl;have z1:=hx4.cell 0 1 rfl rfl;have z2:=hx4.cell 0 2 rfl rfl;have y0:=hx4.frozen 0 0 rfl;have y1:=hx4.frozen 0 1 rfl;have y2:=hx4.frozen 0 2 rfl;obtain⟨t0,t1,t2,HE⟩:=rend (F:=F) (w:=w) (hx4.sub (m:=[(w.heap.size+1,[.int .i64 0,.bool false,.slice none 0 0])]) (by simp)) (by omega) (G:=F) (fun hg=>by have:=hF _ hg;omega) (fun b hb=>.inl hb) ((H.out.below hbw4).more (show N+1≤N+1+1 by omega)) hbw4;clear hx4 hbw4 hb4 ho4 hrow CS n0 n1 n2 hz;go_wp2_with fail
 first|(have:=m587032;exact q587032)|(have:=m7e1cf3;exact q7e1cf3)):p:=h
theorem q56b7d0 (h:p:=by
 by_cases hkn:e.key=[]
 ·have hkb:keyB e.key=false:=by rw[hkn];rfl
  have HF:Hid (nodeB true l=false):=Hd (HNS.out (by rw[HST.out];simp[keyOkN,hkb]));simp only[hkn] at e0 hsz;exact q0ddb2b
 ·have hkn2:(e.key == [])=false:=by simpa using hkn
  by_cases hk16:16<e.key.length
  ·have q16:decide ((16:Int)<(e.key.length:Int))=true:=by simp;omega
   exact q15d91b
  ·have q16:decide ((16:Int)<(e.key.length:Int))=false:=by simp;omega
   have hkb:keyB e.key=true:=by simp[keyB,hkn];omega
   cases hke:kle e.key e'.key with
   | true=>
    have hlq:(Op.bytesLess (strOf e.key).toList (strOf e'.key).toList || (strOf e.key).toList == (strOf e'.key).toList)=true:=by rw[strOf_toList,strOf_toList,bytes_less];exact hke
    simp only[strOf_toList] at hlq;have HF:Hid (nodeB true l=false):=Hd (HNS.out (by rw[HST.out];simp[hke,hk1p]));clear hp1;exact q0ddb2b
   | false=>
    have hlq:(Op.bytesLess (strOf e.key).toList (strOf e'.key).toList || (strOf e.key).toList == (strOf e'.key).toList)=false:=by rw[strOf_toList,strOf_toList,bytes_less];exact hke
    simp only[strOf_toList] at hlq;have hlq1:=(Bool.or_eq_false_iff.1 hlq).1;have hlq2:=(Bool.or_eq_false_iff.1 hlq).2;cases hfn:fineB e.v with
    | false=>
     rw[hfn] at F;have HF:Hid (nodeB true l=false):=Hd (HNS.out (by rw[HST.out];simp[valOkN,hfn]));exact qbe6c73
    | true=>
     rw[hfn] at F;have HU:Hid (upN true l (k+1)=true):=Hd (by rw[HUS.out,HST.out];simp[hke,hk1p,hkb,keyOkN,valOkN,hfn]);have m66e4cf:=trivial;exact q37c2ba):p:=h
theorem q0d8545 (h:p:=by
 by_cases hkn:e.key=[]
 ·have hkb:keyB e.key=false:=by rw[hkn];rfl
  have HF:Hid (nodeB false l=false):=Hd (HNS.out (by rw[HST.out];simp[keyOkN,firstB,hk0,hkb]));simp only[hkn] at e0 hsz;exact q0ddb2b
 ·have hkn2:(e.key == [])=false:=by simpa using hkn
  by_cases hk16:16<e.key.length
  ·have q16:decide ((16:Int)<(e.key.length:Int))=true:=by simp;omega
   have hkb:keyB e.key=false:=by simp[keyB];omega
   have HF:Hid (nodeB false l=false):=Hd (HNS.out (by rw[HST.out];simp[keyOkN,firstB,hk0,hkb]));exact q0ddb2b
  ·have q16:decide ((16:Int)<(e.key.length:Int))=false:=by simp;omega
   have hkb:keyB e.key=true:=by simp[keyB,hkn];omega
   cases hke:kle e.key e'.key with
   | true=>
    have hlq:(Op.bytesLess (strOf e.key).toList (strOf e'.key).toList || (strOf e.key).toList == (strOf e'.key).toList)=true:=by rw[strOf_toList,strOf_toList,bytes_less];exact hke
    simp only[strOf_toList] at hlq;have HF:Hid (nodeB false l=false):=Hd (HNS.out (by rw[HST.out];simp[hke,hk1p]));clear hp1;exact q0ddb2b
   | false=>
    have hlq:(Op.bytesLess (strOf e.key).toList (strOf e'.key).toList || (strOf e.key).toList == (strOf e'.key).toList)=false:=by rw[strOf_toList,strOf_toList,bytes_less];exact hke
    simp only[strOf_toList] at hlq;have hlq1:=(Bool.or_eq_false_iff.1 hlq).1;have hlq2:=(Bool.or_eq_false_iff.1 hlq).2
    by_cases hp1:e.v.page<2
    ·have q1:decide (e.v.page<2)=true:=by simpa using hp1
     exact q4419a1
    ·have q1:decide (e.v.page<2)=false:=by simpa using hp1
     by_cases hp2:999<e.v.page
     ·have q2:decide (999<e.v.page)=true:=by simpa using hp2
      exact q4419a1
     ·have q2:decide (999<e.v.page)=false:=by simpa using hp2
      have hpb:pageB e.v.page=true:=by simp[pageB];omega
      have hv:=fun W=>vneq_page e.v W
      have hvq:(e.v == ⟨[],false,0,e.v.page⟩) = !(e.v != ⟨[],false,0,e.v.page⟩):=by simp[bne]
      generalize (e.v != ⟨[],false,0,e.v.page⟩)=vb at *;cases vb with
      | true=>
       have HF:Hid (nodeB false l=false):=Hd (HNS.out (by rw[HST.out];simp[valOkN,hvq]));exact qbe6c73
      | false=>
       have HU:Hid (upN false l (k+1)=true):=Hd (by rw[HUS.out,HST.out];simp[hke,hk1p,hkb,keyOkN,firstB,hk0,valOkN,hpb,hvq]);have md1ddd3:=trivial;exact q37c2ba):p:=h
theorem q9be21f (h:p:=by
 obtain⟨b2,off2,e',hq,hb2l,hy2,hc',_⟩:=(h.below (Nat.le_refl _) hbw).at hp2;cases hq;have hg2:l[k-1]?.getD ⟨[],Vv.zero⟩=e':=by rw[show k-1=p by omega,hy2];rfl
 rw[hg2] at HST;have hk1:decide ((0:Int)<(k:Int))=true:=by simp;omega
 have hk1n:decide (0<k)=true:=by simp;omega
 have hk1p:0<k:=by omega
 have hk1z:((k:Int) == 0)=false:=by simp;omega
 have hpp:(0:Int)≤(p:Int)∧(p:Int)<(len:Int):=by omega
 have hsub:(k:Int)-1=(p:Int):=by omega
 have hp6:=(hb6.cell (p:=⟨b,off+p*5,none⟩) hb2l).trans hc';clear hg2 hy2 hb2l
 first|(have:=m56b7d0;exact q56b7d0)|(have:=m0d8545;exact q0d8545)):p:=h
theorem q72c811 (h:p:=by
 go_wp2
 go_ret;exact⟨rfl,rfl⟩):p:=h
theorem q630d4a (h:p:=by
 generalize depI D=di at *;generalize D.isSome=ds at *;generalize checkT (n+1) t=ck at *;clear hh h h1 hlf hm hpg hB0 hX0 hb hck hem hD;cases lf with
 | false=>
  go_enter Tryz.func55,Tryz.ntmps55;exact qceefca
 | true=>
  by_cases hm0:m=0
  ·subst hm0
   by_cases hp:pg=0
   ·subst hp
    have HE:Hid (ck=true):=Hd (by rw[HCK.out];rfl);go_enter Tryz.func55,Tryz.ntmps55;exact q993faf
   ·have HE:Hid (ck=ds):=Hd (by rw[HCK.out];simp[hp])
    have q1:(pg == 0)=false:=beq_eq_false_iff_ne.2 hp;have HM0:=Hd hp;clear hp;go_enter Tryz.func55,Tryz.ntmps55;exact qd21dd5
  ·have HE:Hid (ck=ds):=Hd (by rw[HCK.out];simp[hm0])
   have q1:((m:Int) == 0)=false:=beq_eq_false_iff_ne.2 (by omega);have HM0:=Hd hm0;clear hm0;go_enter Tryz.func55,Tryz.ntmps55;exact qd21dd5):p:=h
theorem qbdefa5 (h:p:=by
 have n3:=hX0.cell 0 3 rfl rfl;have n4:=hX0.cell 0 4 rfl rfl;generalize depI D=di at *;generalize D.isSome=ds at *;generalize checkT (n+1) t=ck at *;clear hh h h1 h2 h3 h4 hlf hm hpg r1 r2 hB0 hX0 hb hck hem hD;cases lf with
 | false=>
  simp only[Bool.false_eq_true,if_false] at hvn hcn;replace hcn:=hcn.symm;subst hvn hcn;go_enter Tryz.func53,Tryz.ntmps53;exact qceefca
 | true=>
  simp only[if_true] at hvn hcn;subst hvn hcn
  by_cases hp:pg=0
  ·subst hp
   by_cases hm0:vn=0
   ·subst hm0
    have HE:Hid (ck=true):=Hd (by rw[HCK.out];rfl);go_enter Tryz.func53,Tryz.ntmps53;exact q993faf
   ·have HE:Hid (ck=ds):=Hd (by rw[HCK.out];simp[hm0])
    have q1:((vn:Int)+vn == 0)=false:=beq_eq_false_iff_ne.2 (by omega);have q2:((vn:Int)+vn+0 == 0)=false:=beq_eq_false_iff_ne.2 (by omega);have HM0:=Hd hm0;clear hm0;go_enter Tryz.func53,Tryz.ntmps53;exact qd21dd5
  ·have HE:Hid (ck=ds):=Hd (by rw[HCK.out];simp[hp])
   have q1:(pg == 0)=false:=beq_eq_false_iff_ne.2 hp;have HP:=Hd hp;clear hp;go_enter Tryz.func53,Tryz.ntmps53;exact qd21dd5):p:=h
theorem qa8e0cc (h:p:=by
 have hck:checkT (n+1) t=(emptyB t || (depthT (n+1) t [] [] true).isSome):=rfl;obtain⟨D,hD⟩:∃D,depthT (n+1) t [] [] true=D:=⟨_,rfl⟩
 rw[hD] at CF hck;have hem:emptyB t=(lf && (pg == 0 && m == 0)):=by
  rw[←hlf,←hpg,←hm];cases t with
  | leaf p l=>cases l<;>rfl
  | node p l=>rfl
 have h0:=depI_nn D;have hs0:strOf []=⟨#[]⟩:=rfl;rw[hs0] at CF;have HCK:Hid (checkT (n+1) t=(lf && (pg == 0 && m == 0) || D.isSome)):=Hd (by rw[hck,hem]);have HB:=Hd hB0;have n0:=hX0.cell 0 0 rfl rfl;have n1:=hX0.cell 0 1 rfl rfl;have n2:=hX0.cell 0 2 rfl rfl
 first|(have:=m630d4a;exact q630d4a)|(have:=mbdefa5;exact qbdefa5)):p:=h
theorem q0ddb2b (h:p:=by
 go_wp2_with fail;go_ret;exact⟨ret_bool HF.out.symm,hbw6⟩):p:=h
theorem q61561b (h:p:=by
 have g3:=hs3.cell 0 1 rfl rfl;have hq:(binOp .eql 271 (.iface 273 (.agg #[])) (.iface 273 (.agg #[]))).run Tryz.prog w3=.ok (.bool true) w3:=by kernel_rfl
 have BY:=BX.alloc #[.bool true,.slice none 0 0] 205 rfl;have hb4:=below_one w3 (.cells #[.bool true,.slice none 0 0] 205);have HBS:=Hd hbs;have HB:=Hd hb;have hlt3:=BX.lt 0 rfl;clear hb3 hs3 BX hbs hb;go_wp2_with fail
 go_loopw [42] (fun i wr=>∃(k:Nat) (v:Value) (es:List En),k≤cl.length∧i=.int .i64 k∧DecTo true cl k es∧Boxes wr [(w3.heap.size,[.bool true,v]),(w.heap.size,[.bool false,.slice none 0 0])]∧OwnEn wr (w3.heap.size+1) v es∧Below w3.heap.size w3 wr) (fun i _=>cl.length-(intOf i).toNat)
 case atStart=>exact⟨0,_,[],Nat.zero_le _,rfl,rfl,BY,OwnEn.nil _ _,hb4⟩
 case round=>
  obtain⟨k,v,es,hk,rfl,hdt,BY,hown,hbw⟩:=hrel;have hsz:=hbw.size;have HDT:=Hd hdt;have hes:=hdt.len;clear hdt
  by_cases hlt:k<cl.length
  ·obtain⟨b5,off5,a5,n5,c5,rfl,hbb5,hcell5,hbs5⟩:=(HBS.out.below (Nat.le_refl _) hbw).at hlt
   obtain⟨c,hc⟩:∃c,cl[k]? = some c:=⟨_,List.getElem?_eq_getElem hlt⟩
   rw[hc,Option.getD_some] at hbs5;have h5:c.length≤128:=HC.out c (List.mem_of_getElem? hc);have h5':n5≤128:=by have:=hbs5.len;omega
   have HCK:=Hd hc;have hT:=take_any a5 n5 c5 c wr hbs5 (by omega);have hde:decE true c=(decV true (tText ⟨c,0⟩).2).map fun v=>⟨(tText ⟨c,0⟩).1,v⟩:=rfl
   have hl6:=tText_len ⟨c,0⟩;have hl6:(tText ⟨c,0⟩).2.l.length≤128:=Nat.le_trans hl6 h5;have TT:=fun t W (h:Tk W t ⟨c,0⟩)=>tText_any t ⟨c,0⟩ W h (Nat.le_trans h5 (by decide))
   generalize (tText ⟨c,0⟩).1=key at *;generalize (tText ⟨c,0⟩).2=s6 at *;have HDE:=Hd hde;have TK:=fun t W (h:Tk W t s6)=>takeL_any t s6 W h (Nat.le_trans hl6 (by decide))
   generalize decV true s6=o at *;have hmp:=m_takeL;have m95388a:=trivial;exact q25e6d0
  ·obtain rfl:k=cl.length:=by omega
   have hdl:decL true cl=some es:=by have:=HDT.out;unfold DecTo at this;rwa [List.take_length] at this
   have hes16:SmE es:=fun e he=>by have:=decL_small hdl HC.out e he;omega
   obtain⟨av,kv,rfl,hen⟩:=hown.ents;have CK:=check_any true av es.length kv es wr hen (by omega) hes16;have hE:gE=if nodeB true es then 0 else 11:=by rw[HE.out,hdl]
   have e0:=BY.cell 0 0 rfl rfl;have e1:=BY.cell 0 1 rfl rfl;have HO:=Hd hown;clear hown hen;have hbb:=below_then HB.out hbw;cases hn:nodeB true es with
   | true=>
    rw[hn] at CK hE;have hE0:gE=0:=hE;have hL:gL=es:=by rw[HL.out,if_pos hE0,hdl];rfl
    have hF:gF=true:=by rw[HF.out,if_pos hE0]
    have m3270d5:=trivial;exact qc8892e
   | false=>
    rw[hn] at CK hE;have hE0:gE=11:=hE;have m5421d9:=trivial;exact qec5b5c):p:=h
theorem q0d0552 (h:p:=by
 have g3:=hs3.cell 0 2 rfl rfl;have hq:(binOp .eql 271 (.iface 315 (.agg #[])) (.iface 273 (.agg #[]))).run Tryz.prog w3=.ok (.bool false) w3:=by kernel_rfl
 have BY:=BX.alloc #[.bool false,.slice none 0 0] 205 rfl;have hb4:=below_one w3 (.cells #[.bool false,.slice none 0 0] 205);have HBS:=Hd hbs;have HB:=Hd hb;have hlt3:=BX.lt 0 rfl;clear hb3 hs3 BX hbs hb;go_wp2_with fail
 go_loopw [42] (fun i wr=>∃(k:Nat) (v:Value) (es:List En),k≤cl.length∧i=.int .i64 k∧DecTo false cl k es∧Boxes wr [(w3.heap.size,[.bool false,v]),(w.heap.size,[.bool false,.slice none 0 0])]∧OwnEn wr (w3.heap.size+1) v es∧Below w3.heap.size w3 wr) (fun i _=>cl.length-(intOf i).toNat)
 case atStart=>exact⟨0,_,[],Nat.zero_le _,rfl,rfl,BY,OwnEn.nil _ _,hb4⟩
 case round=>
  obtain⟨k,v,es,hk,rfl,hdt,BY,hown,hbw⟩:=hrel;have hsz:=hbw.size;have HDT:=Hd hdt;have hes:=hdt.len;clear hdt
  by_cases hlt:k<cl.length
  ·obtain⟨b5,off5,a5,n5,c5,rfl,hbb5,hcell5,hbs5⟩:=(HBS.out.below (Nat.le_refl _) hbw).at hlt
   obtain⟨c,hc⟩:∃c,cl[k]? = some c:=⟨_,List.getElem?_eq_getElem hlt⟩
   rw[hc,Option.getD_some] at hbs5;have h5:c.length≤128:=HC.out c (List.mem_of_getElem? hc);have h5':n5≤128:=by have:=hbs5.len;omega
   have HCK:=Hd hc;have hT:=take_any a5 n5 c5 c wr hbs5 (by omega);have hde:decE false c=(decV false (tText ⟨c,0⟩).2).map fun v=>⟨(tText ⟨c,0⟩).1,v⟩:=rfl
   have hl6:=tText_len ⟨c,0⟩;have hl6:(tText ⟨c,0⟩).2.l.length≤128:=Nat.le_trans hl6 h5;have TT:=fun t W (h:Tk W t ⟨c,0⟩)=>tText_any t ⟨c,0⟩ W h (Nat.le_trans h5 (by decide))
   generalize (tText ⟨c,0⟩).1=key at *;generalize (tText ⟨c,0⟩).2=s6 at *;have HDE:=Hd hde;have TK:=fun t W (h:Tk W t s6)=>takeB_any t s6 W h (Nat.le_trans hl6 (by decide))
   generalize decV false s6=o at *;have hmp:=m_takeB;have m36f1fd:=trivial;exact q25e6d0
  ·obtain rfl:k=cl.length:=by omega
   have hdl:decL false cl=some es:=by have:=HDT.out;unfold DecTo at this;rwa [List.take_length] at this
   have hes16:SmE es:=fun e he=>by have:=decL_small hdl HC.out e he;omega
   obtain⟨av,kv,rfl,hen⟩:=hown.ents;have CK:=check_any false av es.length kv es wr hen (by omega) hes16;have hE:gE=if nodeB false es then 0 else 11:=by rw[HE.out,hdl]
   have e0:=BY.cell 0 0 rfl rfl;have e1:=BY.cell 0 1 rfl rfl;have HO:=Hd hown;clear hown hen;have hbb:=below_then HB.out hbw;cases hn:nodeB false es with
   | true=>
    rw[hn] at CK hE;have hE0:gE=0:=hE;have hL:gL=es:=by rw[HL.out,if_pos hE0,hdl];rfl
    have hF:gF=false:=by rw[HF.out,if_pos hE0]
    have mac7a52:=trivial;exact qc8892e
   | false=>
    rw[hn] at CK hE;have hE0:gE=11:=hE;have m5421d9:=trivial;exact qec5b5c):p:=h
theorem qda4906 (h:p:=by
 clear hE hk hlk hdec hgE hgL hgF hcl;go_enter Tryz.func96,Tryz.ntmps96;go_wp2_with fail;refine hun.mono ?_;rintro e w1 ⟨v1,rfl,hob,hb1⟩;obtain⟨ac,cc,rfl,hbs⟩:=hob.bss;have BX:=BX.step hb1;have hb:=below_then hB hb1;clear hob hun hb1;go_wp2_with fail;refine(SH _).mono ?_;rintro e w2 ⟨bs,rfl,hs2,hb2⟩;have BX:=BX.step hb2;have hb:=below_then hb hb2;have hbs:=hbs.below (Nat.le_refl _) hb2;clear hb2 hs2;go_wp2_with fail;refine(SH _).mono ?_;rintro e w3 ⟨bs3,rfl,hs3,hb3⟩;have BX:=BX.step hb3;have hb:=below_then hb hb3;have hbs:=hbs.below (Nat.le_refl _) hb3
 first|(have:=m61561b;exact q61561b)|(have:=m0d0552;exact q0d0552)):p:=h
theorem qb5d386 (h:p:=by
 have hag:AgreeF (fun x=>(Value.slice aE es.length cE).ownBlock≠some x∧x≠w.heap.size+1+1+1) wz w2:=AgreeF.trans (AgreeF.dr (AgreeF.refl wz)) (AgreeF.of_below hb2);exact⟨a9,c9,w9,hr2,g8,g9,hm2.box.cell 1 1 rfl rfl,by have:=hm2.lt;have:=hb2.size;have h8:wz.heap.size≤w2.heap.size:=this;omega,hag,hag.trans gA,hag.trans gB,Hd hmQ⟩):p:=h
theorem q206bd6 (h:p:=by
 have HV:=Hd hv;have H1:=Hd h1;have HX0:=Hd hX0;have HB0:=Hd hB0;have HBD:=Hd hb;show Calls _ _ #[.agg #[.int .i64 0,.bool true,.slice a l.length c]] _ _;clear h hB hb hv h1 hX0 hB0 hcn;go_enter Tryz.func167,Tryz.ntmps167;go_wp2_with fail
 go_loopw [3,4] (fun s3 s4 wr=>∃i:Nat,i≤l.length∧s4=.int .i64 i∧s3=.slice none 0 0∧Below w.heap.size w wr∧Boxes wr [(w.heap.size,[.int .i64 0,.bool true,.slice a l.length c])]) (fun _ s _=>l.length-(intOf s).toNat)
 case atStart=>exact⟨0,Nat.zero_le _,rfl,rfl,HB0.out,HX0.out⟩
 case round=>
  have mac5453:=trivial;exact q9da7d8):p:=h
theorem q804ac2 (h:p:=by
 have c1:=hX0.cell 0 1 rfl rfl;have c2:=hX0.cell 0 2 rfl rfl;have HV:=Hd hv;have H1:=Hd h1;have HX0:=Hd hX0;have HB0:=Hd hB0;have HF:=Hd hf;show Calls _ _ #[.agg #[.int .i64 0,.bool true,.slice a l.length c]] _ _
 by_cases hl0:l=[]
 ·subst hl0
  have HR:Hid (freshN (n+1) (.leaf 0 ([]:List (List UInt8×Tv)))=0):=Hd rfl;rw[HR.out];clear h hB hb hf hv h1 hX0 hB0 hcn hbl;rw[List.length_nil] at hwb c2;go_enter Tryz.func43,Tryz.ntmps43;go_wp2_with fail;go_ret;exact⟨rfl,HB0.out⟩
 ·obtain⟨m,hm⟩:∃m,freshN (n+1) (.leaf 0 l)=m:=⟨_,rfl⟩
  have hm2:m=1+(l.map fun c=>needC c.2.data.length).sum:=by rw[←hm];unfold freshN;rw[if_neg hl0]
  rw[hm] at hf;rw[hm];have HM:=Hd hm2;have hpos:0<l.length:=List.length_pos_iff.2 hl0;have q0:((l.length:Int) == 0)=false:=by simp;omega
  have q0':(l.length == 0)=false:=by simp;exact hl0
  clear h hB hb hv h1 hX0 hB0 hcn hm hm2;go_enter Tryz.func43,Tryz.ntmps43;go_wp2_with fail
  go_loopw [3,4,5] (fun s3 s4 _ wr=>∃i:Nat,i≤l.length∧s4=.int .i64 i∧s3=.int .i64 ((1+((l.take i).map fun c=>needC c.2.data.length).sum:Nat):Int)∧Below w.heap.size w wr∧Boxes wr [(w.heap.size,[.int .i64 0,.bool true,.slice a l.length c])]) (fun _ s _ _=>l.length-(intOf s).toNat)
  case atStart=>exact⟨0,Nat.zero_le _,rfl,rfl,HB0.out,HX0.out⟩
  case round=>
   have mcf3b72:=trivial;exact q9da7d8):p:=h
theorem qf6cfb1 (h:p:=by
 obtain⟨rfl,hv⟩:=bare_vals hB;obtain⟨a,c,rfl,h1,_⟩:=h.at;have hbl:l.length≤1000:=hb.1;have hcn:cntT (.leaf 0 l)=l.length:=rfl;rw[hcn] at h1;obtain⟨wb,hwb⟩:∃x,w.alloc (.cells #[.int .i64 0,.bool true,.slice a l.length c] 27)=x:=⟨_,rfl⟩
 have hB0:Below w.heap.size w wb:=by rw[←hwb];exact Below.al (Below.refl _ _)
 have hX0:Boxes wb [(w.heap.size,[.int .i64 0,.bool true,.slice a l.length c])]:=by rw[←hwb];exact(Boxes.nil w).alloc #[.int .i64 0,.bool true,.slice a l.length c] 27 rfl
 have c0:=hX0.cell 0 0 rfl rfl
 first|(have:=m206bd6;exact q206bd6)|(have:=m804ac2;exact q804ac2)):p:=h
theorem q0dcaad (h:p:=by
 go_loopw [10,44] (fun _ s44 wr=>∃(i:Nat) (v1 v2 v3:Value) (s:List Int) (Li:List (List UInt8×Tr)),i≤gl.length∧s44=.int .i64 i∧Li.length=i∧SeenOk s∧roomL s<n∧afterL Li (kidsL (loadT d r n) s (gl.drop i))=R0∧LMid T w w6 lb mb da M d r s (w5.heap.size+1) w.heap.size (w5.heap.size+2) n p false v1 v2 v3 (keysOf Li) [] (Li.map (·.2)) wr) (fun _ s _=>gl.length-(intOf s).toNat)
 case atStart=>exact⟨0,_,_,_,seen++[p],[],Nat.zero_le _,rfl,rfl,HS.out.snoc HM.out (paged_range HD3.out.dok HPE.out).1 (paged_range HD3.out.dok HPE.out).2,hroom0,by rw[List.drop_zero,afterL_nil];exact HR0.out,HMID.out⟩
 case round=>
  clear HMID;obtain⟨i,v1,v2,v3,s,Li,hi,rfl,hLi,hsok,hroom,haf,hmid⟩:=hrel;obtain⟨a1,k1,a2,k2,a3,k3,rfl,rfl,rfl⟩:=hmid.rows.sl;have hlt2:=hmid.lt;have q5:=HSZ6.out;have htm:=hmid.ld.tm;have hK0:(keysOf Li).length=i:=by simp[keysOf];omega
  have hV0:(Li.map (·.2)).length=i:=by simp;omega
  have hnil:([]:List Tv).length=0:=rfl;rw[hK0,hnil,hV0] at hmid
  by_cases hlt:i<gl.length
  ·obtain⟨b,off,en,rfl,hb5,hen,k0,k1',k2',k3',k4⟩:=HENTS.out.at hlt
   have m25fcab:=trivial;exact q001ac4
  ·have hin:i=gl.length:=by omega
   have hdr:gl.drop i=[]:=List.drop_of_length_le (by omega);rw[hdr] at haf;have haf2:R0=.ok (s,Li):=by rw[←haf];unfold kidsL;simp[afterL]
   have htw:=hmid.tw;have hx:=hmid.box;have n0:=hx.cell 0 0 rfl rfl;have n1:=hx.cell 0 1 rfl rfl;have n2:=hx.cell 0 2 rfl rfl;have n3:=hx.cell 0 3 rfl rfl;have n4:=hx.cell 0 4 rfl rfl;have hrb:Boxes wr [(w.heap.size,zero5.toList)]:=hx.sub (by intro q hq;simp at hq ⊢;exact .inr hq);have hrb1:=hrb.put 0 (.int .i64 p) (by intro q hq;simp at hq);have hrb2:=hrb1.put 1 (.bool false) (by intro q hq;simp at hq);have hrb3:=hrb2.put 2 (.slice a1 i k1) (by intro q hq;simp at hq);have hrb4:=hrb3.put 3 (.slice a2 0 k2) (by intro q hq;simp at hq);have hrb5:=hrb4.put 4 (.slice a3 i k3) (by intro q hq;simp at hq);obtain⟨we,hwe⟩:∃x,x=((((wr.setCell ⟨w.heap.size,0,none⟩ (.int .i64 p)).setCell ⟨w.heap.size,1,none⟩ (.bool false)).setCell ⟨w.heap.size,2,none⟩ (.slice a1 i k1)).setCell ⟨w.heap.size,3,none⟩ (.slice a2 0 k2)).setCell ⟨w.heap.size,4,none⟩ (.slice a3 i k3):=⟨_,rfl⟩
   rw[←hwe] at hrb5;have hbw:Below w.heap.size wr we:=by
    exact q5f5823
   have hrows:NodeRows 9 101 50 (fun _=>False) n (w5.heap.size+2) we (.slice a1 i k1) (.slice a2 0 k2) (.slice a3 i k3) (keysOf Li) [] (Li.map (·.2)):=by
    rw[hwe];have hk:w.heap.size<w5.heap.size+2:=by omega
    exact((((hmid.rows.set hk id).set hk id).set hk id).set hk id).set hk id
   have HE:Hid (PagePost T w lb mb da M d r (n+1) (nodeR p R0) (.returned (.agg #[.int .i64 p,.bool false,.slice a1 i k1,.slice a2 0 k2,.slice a3 i k3])) we):=Hd (by rw[haf2];exact⟨only_past hmid.ol (Nat.le_refl _) hbw,[.int .i64 p,.bool false,.slice a1 i k1,.slice a2 0 k2,.slice a3 i k3],rfl,hrows.node (fun b hb=>by rcases hb with hb|hb;exact hb.elim;omega),hmid.ld.past (hbw.mono htw)⟩);have mb83ae1:=trivial;exact qc37ea5):p:=h
theorem q0a244b (h:p:=by
 go_loopw [10,44] (fun _ s44 wr=>∃(i:Nat) (v1 v2 v3:Value) (s:List Int) (Li:List (List UInt8×Tv)),i≤gl.length∧s44=.int .i64 i∧Li.length=i∧SeenOk s∧afterL Li (valsL d r s (gl.drop i))=R0∧LMid T w w6 lb mb da M d r s (w5.heap.size+1) w.heap.size (w5.heap.size+2) n p true v1 v2 v3 (keysOf Li) (Li.map (·.2)) [] wr) (fun _ s _=>gl.length-(intOf s).toNat)
 case atStart=>exact⟨0,_,_,_,seen++[p],[],Nat.zero_le _,rfl,rfl,HS.out.snoc HM.out (paged_range HD3.out.dok HPE.out).1 (paged_range HD3.out.dok HPE.out).2,by rw[List.drop_zero,afterL_nil];exact HR0.out,HMID.out⟩
 case round=>
  clear HMID;obtain⟨i,v1,v2,v3,s,Li,hi,rfl,hLi,hsok,haf,hmid⟩:=hrel;obtain⟨a1,k1,a2,k2,a3,k3,rfl,rfl,rfl⟩:=hmid.rows.sl;have hlt2:=hmid.lt;have q5:=HSZ6.out;have htm:=hmid.ld.tm;have hK0:(keysOf Li).length=i:=by simp[keysOf];omega
  have hV0:(Li.map (·.2)).length=i:=by simp;omega
  have hnil:([]:List Tr).length=0:=rfl;rw[hK0,hV0,hnil] at hmid
  by_cases hlt:i<gl.length
  ·obtain⟨b,off,en,rfl,hb5,hen,k0,k1',k2',k3',k4⟩:=HENTS.out.at hlt
   have m85ad06:=trivial;exact q001ac4
  ·have hin:i=gl.length:=by omega
   have hdr:gl.drop i=[]:=List.drop_of_length_le (by omega);rw[hdr] at haf;have haf2:R0=.ok (s,Li):=by rw[←haf];unfold valsL;simp[afterL]
   have htw:=hmid.tw;have hx:=hmid.box;have n0:=hx.cell 0 0 rfl rfl;have n1:=hx.cell 0 1 rfl rfl;have n2:=hx.cell 0 2 rfl rfl;have n3:=hx.cell 0 3 rfl rfl;have n4:=hx.cell 0 4 rfl rfl;have hrb:Boxes wr [(w.heap.size,zero5.toList)]:=hx.sub (by intro q hq;simp at hq ⊢;exact .inr hq);have hrb1:=hrb.put 0 (.int .i64 p) (by intro q hq;simp at hq);have hrb2:=hrb1.put 1 (.bool true) (by intro q hq;simp at hq);have hrb3:=hrb2.put 2 (.slice a1 i k1) (by intro q hq;simp at hq);have hrb4:=hrb3.put 3 (.slice a2 i k2) (by intro q hq;simp at hq);have hrb5:=hrb4.put 4 (.slice a3 0 k3) (by intro q hq;simp at hq);obtain⟨we,hwe⟩:∃x,x=((((wr.setCell ⟨w.heap.size,0,none⟩ (.int .i64 p)).setCell ⟨w.heap.size,1,none⟩ (.bool true)).setCell ⟨w.heap.size,2,none⟩ (.slice a1 i k1)).setCell ⟨w.heap.size,3,none⟩ (.slice a2 i k2)).setCell ⟨w.heap.size,4,none⟩ (.slice a3 0 k3):=⟨_,rfl⟩
   rw[←hwe] at hrb5;have hbw:Below w.heap.size wr we:=by
    exact q5f5823
   have hrows:NodeRows 9 101 50 (fun _=>False) n (w5.heap.size+2) we (.slice a1 i k1) (.slice a2 i k2) (.slice a3 0 k3) (keysOf Li) (Li.map (·.2)) []:=by
    rw[hwe];have hk:w.heap.size<w5.heap.size+2:=by omega
    exact((((hmid.rows.set hk id).set hk id).set hk id).set hk id).set hk id
   have HE:Hid (PagePost T w lb mb da M d r (n+1) (leafR p R0) (.returned (.agg #[.int .i64 p,.bool true,.slice a1 i k1,.slice a2 i k2,.slice a3 0 k3])) we):=Hd (by rw[haf2];exact⟨only_past hmid.ol (Nat.le_refl _) hbw,[.int .i64 p,.bool true,.slice a1 i k1,.slice a2 i k2,.slice a3 0 k3],rfl,hrows.leaf (fun b hb=>by rcases hb with hb|hb;exact hb.elim;omega) n,hmid.ld.past (hbw.mono htw)⟩);have ma99956:=trivial;exact qc37ea5):p:=h
theorem q9b3af7 (h:p:=by
 have nb0:=hx6.cell 1 0 rfl rfl;obtain⟨a',c',e',hents⟩:=HON.out.ents;cases e';have hgeb:=own_ge HON.out;have HENTS:=Hd hents;have HMID:=Hd hmid;have HR0:=Hd hR0;have HN:=Hd hN;have HN2:=Hd hn2;have HN3:=Hd hn3;have HB56:=Hd hb56;have HSZ6:=Hd hsz6;have HGEB:=Hd hgeb;have HNB0:=Hd nb0;have hs53:w.heap.size<w5.heap.size:=by have:=hx5.lt 0 rfl;exact this
 have HW6:=Hd hw6;clear hR0 hN hn2 hn3 hx5 hx6 hb56 hsz6 hb36 hmid hents hgeb nb0 hw6;go_wp2_with fail;refine(must_ok _).mono ?_;rintro e wy ⟨rfl,rfl⟩;go_wp2_with fail;rw[←HW6.out]
 first|(have:=m0dcaad;exact q0dcaad)|(have:=m0a244b;exact q0a244b)):p:=h
theorem q1cef97 (h:p:=by
 have CP:=rnput_any false aE es.length cE es w3 hents (by have:=HES.out;omega) HSM.out;obtain⟨PB,hPB⟩:∃x,putN false es=x:=⟨_,rfl⟩
 obtain⟨PE,hPE⟩:∃x,putNE false es=x:=⟨_,rfl⟩
 have m3ab46a:=trivial;exact q023213):p:=h
theorem qecfa37 (h:p:=by
 have CP:=rnput_any true aE es.length cE es w3 hents (by have:=HES.out;omega) HSM.out;obtain⟨PB,hPB⟩:∃x,putN true es=x:=⟨_,rfl⟩
 obtain⟨PE,hPE⟩:∃x,putNE true es=x:=⟨_,rfl⟩
 have mb1a670:=trivial;exact q023213):p:=h
theorem qa1a0d2 (h:p:=by
 have hm0:=hx3.cell 1 0 rfl rfl;have hm1:=hx3.cell 1 1 rfl rfl;have hvo:=fun e=>(hm2.vne (g:=w.heap.size+1+1) e).1 rfl
 have hy3:LyIn F w3 sb vi ws2 la3 (lc2-1) (left2.drop 1):=hm2.ly.only ho3 (fun k hk=>by simp at hk;subst hk;exact⟨by omega,hvo⟩);have hre3:w3.ownsRow wB.heap.size 226 5 (.slice aE es.length cE) es.length (es.flatMap ecells):=own_only hm2.re ho3 (fun k hk hm9=>by have:=(hm2.lge hk).1;simp at hm9;omega);obtain⟨aE',cE',eE,hents⟩:=OwnRe.ents (show OwnRe w3 wB.heap.size (.slice aE es.length cE) es from hre3);cases eE
 first|(have:=m1cef97;exact q1cef97)|(have:=mecfa37;exact qecfa37)):p:=h
theorem q3eabde (h:p:=by
 have hl1:=hbss.2.1;have hl2:=hbss.2.2.1;unfold maxLen at hl2;clear hu ho2 hb1 hb2 hbss;go_wp2_with fail
 go_ret3
 rw[HF.out,HN.out,HL.out];exact oneC_nil hB):p:=h
theorem qf7f6b9 (h:p:=by
 clear hu ho2 hb1 hb2 hbss;go_wp2_with fail
 go_ret3
 rw[HF.out,HN.out,HL.out];exact oneC_nil hB):p:=h
theorem q8f50cf (h:p:=by
 rw[HLL.out] at hbss ⊢;obtain⟨b3,o3,a3,n3,c3,rfl,hb3,hcell,hbs3⟩:=hbss.at (k:=0) (by omega);rw[HC.out] at hbs3;rw[Nat.add_zero] at hcell;have hcc:=hbss.2.1;have hT:=take_any a3 n3 c3 C w2 hbs3 (by have:=hbs3.len;have:=HCL.out;omega);have HB2:=Hd hB;clear hu ho2 hb1 hb2 hbss hbs3 hB main;go_wp2_with fail;refine hT.mono ?_;rintro e w3 ⟨rfl,htk,hlt,hb3'⟩;have hN3:=hN _ _ htk;have HB3:=Hd (below_then HB2.out hb3');have HLT:=Hd (Nat.le_trans HB2.out.size hlt);generalize w3.heap.size-1=t at *;clear hT hb3' htk hlt hcell hN;go_wp2_with fail;refine hN3.mono ?_;rintro e w4 ⟨v4,rfl,rfl,hg4,htk4⟩;have HB4:=Hd (below_take HB3.out HLT.out hg4);have hR4:=hRs _ _ htk4;clear hN3 hRs hg4 htk4;go_wp2_with fail;refine hR4.mono ?_;rintro e w5 ⟨v5,rfl,ho5,hg5,htk5⟩;have HB5:=Hd (below_take HB4.out HLT.out hg5);have hE5:=tErr_any _ _ w5 htk5;have HO5:=Hd (own_baseC ho5 HB4.out.size);clear hR4 hg5 htk5 ho5;go_wp2_with fail;refine hE5.mono ?_;rintro e w6 ⟨rfl,rfl⟩;clear hE5;go_wp2_with fail
 go_ret3
 obtain⟨k1,k2,k3⟩:=HEND.out;rw[k1,k2,k3];exact⟨_,rfl,HO5.out,HB5.out⟩):p:=h
theorem q8bfa11 (h:p:=by
 go_enter Tryz.func178,Tryz.ntmps178;go_wp2_with fail;refine hr.mono ?_;rintro e w1 ⟨v1,rfl,ho1,hb1⟩;obtain⟨a1,c1,rfl,hbs1⟩:=Bs.of_own ho1;have hu:=main w1 a1 c1 hbs1 hb1;clear hr ho1 hbs1;go_wp2_with fail;refine hu.mono ?_;rintro e w2 ⟨v2,rfl,ho2,hb2⟩;have hB:=below_then hb1 hb2;obtain⟨a2,c2,rfl,hbss⟩:=ho2.bss
 first|(have:=m3eabde;exact q3eabde)|(have:=mf7f6b9;exact qf7f6b9)|(have:=m8f50cf;exact q8f50cf)):p:=h
theorem qfe8b72 (h:p:=by
 obtain⟨w5b,hw5b⟩:∃x,w5.alloc (.cells #[.int .i64 kp,.bool klf,.slice xa xn xc] 27)=x:=⟨_,rfl⟩
 have hbk5:Below w5.heap.size w5 w5b:=by rw[←hw5b];exact Below.al (Below.refl _ _)
 have hsk5:w5b.heap.size=w5.heap.size+1:=by rw[←hw5b];simp
 have hxk:Boxes w5b [(w5.heap.size,[.int .i64 kp,.bool klf,.slice xa xn xc])]:=by rw[←hw5b];exact(Boxes.nil w5).alloc #[.int .i64 kp,.bool klf,.slice xa xn xc] 27 rfl
 have hxc5b:=hxc5.step hbk5;obtain⟨w6,hw6⟩:∃x,w5b.setCell ⟨wr.heap.size,3,none⟩ (.slice (some ⟨w5.heap.size,0,none⟩) 1 1)=x:=⟨_,rfl⟩
 have k3:=hxc5b.cell 0 3 rfl rfl;have t3:=hxc5b.frozen 0 3 rfl;have hx6:Boxes w6 [(wr.heap.size,[.string (strOf key),.string (strOf []),.slice pa 0 pc,.slice (some ⟨w5.heap.size,0,none⟩) 1 1])]:=by rw[←hw6];exact hxc5b.put 3 _ (by intro q hq;simp at hq)
 have hob6:Only [wr.heap.size] w5b w6:=by rw[←hw6];exact(Only.refl _ _).set _ _ (by simp)
 have ho56:Only [wr.heap.size] w5 w6:=(Only.of_below hbk5).trans hob6;have hxk6:=hxk.only hob6 (by intro q hq;simp at hq;subst hq;simp;omega);have hl6:=ho56.size;have hy6:=hy5.only ho56 (fun k hk=>by simp at hk;subst hk;exact⟨by omega,hv5c⟩);have ho6:Only (RS sb vi) wr w6:=((Only.of_below HBC.out).trans ho5).then ho56 (fun k hk=>by simp at hk;subst hk;exact .inr (Nat.le_refl _));have hm6:=HM.out.turn hy6 ho6 (ht5.from (by omega));have hll:=HLL.out;have hes:=HES.out;have hv5lt:∀k,v5.ownBlock=some k→k<w5.heap.size:=fun k hk=>(hy5.ge hk).2
 have hkid6:RNodeOn (LG F wB.heap.size v5 (.slice aC LL.length cC) (.slice aE es.length cE)) n w6 [.int .i64 kp,.bool klf,.slice xa xn xc] RR.1:=RNodeOn.mono (fun b hb=>hb.imp id fun hb=>⟨by omega,hb.2,fun e=>by have:=(HM.out.lgc e).2;omega,fun e=>by have:=(HM.out.lge e).2;omega⟩) (hkid5.agree ⟨hl6,fun b hb hlt9=>ho56.block hlt9 (by
  have h9:b≠wr.heap.size:=by
   rcases hb with hb|hb
   ·have:=HFB.out b hb;omega
   ·omega
  simpa using h9)⟩)
 have hyC:RcOn (LG F wB.heap.size v5 (.slice aC LL.length cC) (.slice aE es.length cE)) n w6 [.string (strOf key),.string (strOf []),.slice pa 0 pc,.slice (some ⟨w5.heap.size,0,none⟩) 1 1] ⟨key,⟨[],[]⟩,some RR.1⟩:=by
  refine⟨pa,0,pc,some ⟨w5.heap.size,0,none⟩,1,1,rfl,⟨rfl,HRW.out.2.1,HRW.out.2.2.1,HRW.out.2.2.2.1,.inl rfl⟩,.inl rfl,⟨rfl,Nat.le_refl _,by unfold maxLen;omega,fun h=>(by cases h),.inr ⟨w5.heap.size,0,rfl,hxk6.lt 0 rfl,fun j y hj=>?_⟩⟩,.inr fun b off e=>?_⟩
  ·cases j with
   | succ j=>simp at hj
   | zero=>
    simp at hj;subst hj;refine⟨[.int .i64 kp,.bool klf,.slice xa xn xc],rfl,hkid6,fun m u hu=>?_⟩;exact qc9233d
  ·cases e
   exact .inr ⟨by omega,fun e=>by have:=hv5lt _ e;omega,fun e=>by have:=(HM.out.lgc e).2;omega,fun e=>by have:=(HM.out.lge e).2;omega⟩
 have hkp:kp=RR.1.page:=by
  obtain⟨z1,z2,z3,z4⟩:=RNodeOn.open_pos hkid5;simp at z4;exact z4.1
 obtain⟨aN,cN,w7,LL',hrun,f8,f9,hl',hmP,hoP⟩:=hm6.pushC (by omega) (x0:=.string (strOf key)) (x1:=.string (strOf [])) (x2:=.slice pa 0 pc) (x3:=.slice (some ⟨w5.heap.size,0,none⟩) 1 1) (by intro u hu;simp at hu;rcases hu with rfl|rfl|rfl|rfl<;>rfl) hyC;have o2:=hm6.box.cell 0 2 rfl rfl;have yc0:=hx6.cell 0 0 rfl rfl;have yc1:=hx6.cell 0 1 rfl rfl;have yc2:=hx6.cell 0 2 rfl rfl;have yc3:=hx6.cell 0 3 rfl rfl;obtain⟨wz,hwz⟩:∃x,w7.setCell ⟨w.heap.size+1+1,2,none⟩ (.slice aN (LL.length+1) cN)=x:=⟨_,rfl⟩
 rw[hwz] at hmP hoP;have hoC:∀k,(k=wr.heap.size∨k=w5.heap.size)→k∉(w.heap.size+1+1)::(Value.slice aC LL.length cC).ownBlock.toList:=fun k hk hm=>by
  have h9:k=w.heap.size+1+1∨(Value.slice aC LL.length cC).ownBlock=some k:=by
   exact q2b53f5
  rcases hk with rfl|rfl<;>(rcases h9 with e|e;omega;have:=(HM.out.lgc e).2;omega)
 have hxz:=hx6.only hoP (by intro q hq;simp at hq;subst hq;exact hoC _ (.inl rfl));have hxkz:=hxk6.only hoP (by intro q hq;simp at hq;subst hq;exact hoC _ (.inr rfl));have hkz:=hxkz.cell 0 0 rfl rfl;have hkzl:=hxkz.lt 0 rfl;have m5fba24:=trivial;exact q7b3416):p:=h
theorem q7e3efd (h:p:=by
 obtain⟨w6,hw6⟩:∃x,(w5.setCell ⟨wr.heap.size,1,none⟩ (.string (strOf d))).setCell ⟨wr.heap.size,2,none⟩ (.slice pa2 pn2 pc2)=x:=⟨_,rfl⟩
 have k1:=hxc5.cell 0 1 rfl rfl;have k2:=hxc5.cell 0 2 rfl rfl;have t1:=hxc5.frozen 0 1 rfl;have t2:=hxc5.frozen 0 2 rfl;have hx6:Boxes w6 [(wr.heap.size,[.string (strOf key),.string (strOf d),.slice pa2 pn2 pc2,.slice ka 0 kc])]:=by rw[←hw6];exact(hxc5.put 1 (.string (strOf d)) (by intro q hq;simp at hq)).put 2 (.slice pa2 pn2 pc2) (by intro q hq;simp at hq)
 have ho56:Only [wr.heap.size] w5 w6:=by rw[←hw6];exact((Only.refl _ _).set _ _ (by simp)).set _ _ (by simp)
 have hFc:∀b,F b→b∉[wr.heap.size]:=fun b hb hm=>by have:=HFB.out b hb;simp at hm;omega
 have hrow6:=row_fa hrow5 hfa5 ho56 hFc;have hy6:=hy5.only ho56 (fun k hk=>by simp at hk;subst hk;exact⟨by omega,hv5c⟩);have ho6:Only (RS sb vi) wr w6:=((Only.of_below HBC.out).trans ho5).then ho56 (fun k hk=>by simp at hk;subst hk;exact .inr (Nat.le_refl _));have hm6:=HM.out.turn hy6 ho6 (ht5.from (by omega));have hll:=HLL.out;have hes:=HES.out;have hyC:RcOn (LG F wB.heap.size v5 (.slice aC LL.length cC) (.slice aE es.length cE)) n w6 [.string (strOf key),.string (strOf d),.slice pa2 pn2 pc2,.slice ka 0 kc] ⟨key,⟨d,pvL d left2⟩,none⟩:=
  ⟨pa2,pn2,pc2,ka,0,kc,rfl,hrow6,hfa5.mono (fun b hb=>.inl hb),⟨rfl,HKC.out.2.1,HKC.out.2.2.1,HKC.out.2.2.2.1,.inl rfl⟩,.inl rfl⟩
 obtain⟨aN,cN,w7,LL',hrun,f8,f9,hl',hmP,hoP⟩:=hm6.pushC (by omega) (x0:=.string (strOf key)) (x1:=.string (strOf d)) (x2:=.slice pa2 pn2 pc2) (x3:=.slice ka 0 kc) (by intro u hu;simp at hu;rcases hu with rfl|rfl|rfl|rfl<;>rfl) hyC;have o2:=hm6.box.cell 0 2 rfl rfl;have yc0:=hx6.cell 0 0 rfl rfl;have yc1:=hx6.cell 0 1 rfl rfl;have yc2:=hx6.cell 0 2 rfl rfl;have yc3:=hx6.cell 0 3 rfl rfl;obtain⟨wz,hwz⟩:∃x,w7.setCell ⟨w.heap.size+1+1,2,none⟩ (.slice aN (LL.length+1) cN)=x:=⟨_,rfl⟩
 rw[hwz] at hmP hoP;have hoC:∀k,(k=wr.heap.size∨F k)→k∉(w.heap.size+1+1)::(Value.slice aC LL.length cC).ownBlock.toList:=fun k hk hm=>by
  have h9:k=w.heap.size+1+1∨(Value.slice aC LL.length cC).ownBlock=some k:=by
   exact q2b53f5
  rcases hk with rfl|hk
  ·rcases h9 with e|e
   ·omega
   ·have:=(HM.out.lgc e).2;omega
  ·have:=HFB.out k hk
   rcases h9 with e|e
   ·omega
   ·have:=(HM.out.lgc e).1;omega
 have hxz:=hx6.only hoP (by intro q hq;simp at hq;subst hq;exact hoC _ (.inl rfl));have hrowz:=row_fa hrow6 hfa5 hoP (fun b hb=>hoC b (.inr hb));have m25435a:=trivial;exact q7b3416):p:=h
theorem q384c9b (h:p:=by
 have hsc:=HSC.out;have hcbn:wr.heap.size∉RS sb vi:=fun hmm=>by
  rcases RS.mem.1 hmm with e|e
  ·omega
  ·have:=(HM.out.vne e).2.2.2;omega
 have hxc5:=HXC.out.only ho5 (by intro q hq;simp at hq;subst hq;exact hcbn);have hs5:=ho5.size;have hv5:∀k,v5.ownBlock=some k→vi.ownBlock=some k∨wc.heap.size≤k:=fun k hk=>by
  rcases ht5 with t|t
  ·exact .inl (t ▸ hk)
  ·exact .inr (t k hk)
 have hv5c:v5.ownBlock≠some wr.heap.size:=fun e=>by
  rcases hv5 _ e with e|e
  ·exact hcbn (RS.mem.2 (.inr e))
  ·omega
 first|(have:=mfe8b72;exact qfe8b72)|(have:=m7e3efd;exact q7e3efd)):p:=h
theorem qcbc424 (h:p:=by
 go_wp2_with (first|(go_at_call 229;(with_reducible refine(LE _).mono ?_);rintro e1 w7 ⟨rfl,hb7⟩;have hC7:=hC.trans (hb7.mono hC.size)))
 exact qdf05d4):p:=h
theorem q72cd6b (h:p:=by
 go_wp2_with (first|(go_at_call 229;(with_reducible refine(LE _).mono ?_);rintro e1 w7 ⟨rfl,hb7⟩;have hC7:=hC.trans (hb7.mono hC.size)))
 exact qe9cca3):p:=h
theorem q6cd806 (h:p:=by
 go_wp2_with (first|(go_at_call 236;(with_reducible refine(LE _).mono ?_);rintro e1 w7 ⟨rfl,hb7⟩;have hC7:=hC.trans (hb7.mono hC.size)))
 exact qdf05d4):p:=h
theorem qf05918 (h:p:=by
 go_wp2_with (first|(go_at_call 236;(with_reducible refine(LE _).mono ?_);rintro e1 w7 ⟨rfl,hb7⟩;have hC7:=hC.trans (hb7.mono hC.size)))
 exact qe9cca3):p:=h
theorem q66d4fb (h:p:=by
 go_wp2_with fail;refine wp_region_noPanic ?_;refine wp_region_held_drew (S:=fun W=>Below wr.heap.size wr W) (by kernel_rfl) (by with_reducible assumption) (fun hHeld=>?_);refine tks [0,1] ?_;refine tks [2,3] ?_;refine rdy 4 (fun K hK=>?_);rw[if_pos (by rfl)]
 first|(have:=mcbc424;exact qcbc424)|(have:=m72cd6b;exact q72cd6b)|(have:=m6cd806;exact q6cd806)|(have:=mf05918;exact qf05918)):p:=h
theorem qb9bb5b (h:p:=by
 obtain⟨w5,hw5⟩:∃x,w4.alloc (.cells #[.bool false,.slice an gl.length cn] 221)=x:=⟨_,rfl⟩
 have hb45:Below w4.heap.size w4 w5:=by rw[←hw5];exact Below.al (Below.refl _ _)
 have hs45:w5.heap.size=w4.heap.size+1:=by rw[←hw5];simp
 have hxn:Boxes w5 [(w4.heap.size,[.bool false,.slice an gl.length cn])]:=by rw[←hw5];exact(Boxes.nil w4).alloc #[.bool false,.slice an gl.length cn] 221 rfl
 have md0073c:=trivial;exact qea283d):p:=h
theorem qa96d6d (h:p:=by
 obtain⟨w5,hw5⟩:∃x,w4.alloc (.cells #[.bool true,.slice an gl.length cn] 221)=x:=⟨_,rfl⟩
 have hb45:Below w4.heap.size w4 w5:=by rw[←hw5];exact Below.al (Below.refl _ _)
 have hs45:w5.heap.size=w4.heap.size+1:=by rw[←hw5];simp
 have hxn:Boxes w5 [(w4.heap.size,[.bool true,.slice an gl.length cn])]:=by rw[←hw5];exact(Boxes.nil w4).alloc #[.bool true,.slice an gl.length cn] 221 rfl
 have mf77d86:=trivial;exact qea283d):p:=h
theorem qce10ab (h:p:=by
 have hpe0:=HPE.out;rw[hP] at hpe0;subst hpe0;have G:=rnget_any rb wx (by omega);obtain⟨ge,hge⟩:∃x,getNE rb=x:=⟨_,rfl⟩
 obtain⟨gf,hgf⟩:∃x,getNF rb=x:=⟨_,rfl⟩
 obtain⟨gl,hgl⟩:∃x,getNL rb=x:=⟨_,rfl⟩
 have hgf0:=hgf;rw[←HRB.out,hF] at hgf0;subst hgf0;rw[hge,hgf,hgl] at G;have HGE:=Hd hge;have HGL:=Hd hgl;clear hge hgf hgl;go_wp2_with fail;refine G.mono ?_;rintro e w4 ⟨vn,rfl,hon,hbn⟩;obtain⟨an,cn,rfl,hcn,hcm,_⟩:=own_slice hon;unfold maxLen at hcm;have hsx4:=hbn.size
 first|(have:=mb9bb5b;exact qb9bb5b)|(have:=ma96d6d;exact qa96d6d)):p:=h
theorem q5881c0 (h:p:=by
 clear hdq hxq hoq htq hvq hm hE1 hE2 hxr hxe nbr hc hLL;go_wp2_with fail;change bodyPost Tryz.prog _ _ _ _ (st3 wq w.heap.size (.int .i64 p) (.bool false) (.slice aL LL.length cL));rw[←hwe];refine bodyPost_ret (v:=.agg #[.int .i64 p,.bool false,.slice aL LL.length cL]) (by simp[results,Tryz.results54,go_sem,z0,z1,z2]) rfl ?_;exact HE.out):p:=h
theorem q834c9f (h:p:=by
 go_wp2_with fail
 go_round
 case rel=>exact⟨(i+1)+1,by omega,by go_num,HT2.out⟩
 case measure=>simp[intOf];omega):p:=h
theorem q36f1fd (h:p:=by
 cases o with
 | none=>
  obtain⟨x,rfl⟩:=hu;have hN:decL false cl=none:=decL_none HCK.out HDE.out;exact qe37dd5
 | some x=>
  subst hu;have hD:decE false c=some ⟨key,x⟩:=HDE.out;have m7e5cc0:=trivial;exact q1c8a3f):p:=h
theorem q95388a (h:p:=by
 cases o with
 | none=>
  obtain⟨x,rfl⟩:=hu;have hN:decL true cl=none:=decL_none HCK.out HDE.out;exact qe37dd5
 | some x=>
  subst hu;have hD:decE true c=some ⟨key,x⟩:=HDE.out;have m5d96fc:=trivial;exact q1c8a3f):p:=h
theorem q25e6d0 (h:p:=by
 clear hc hbs5 hde;go_wp2_with fail;refine hT.mono ?_;rintro e w5 ⟨rfl,htk5,htl,hb5⟩;generalize w5.heap.size-1=t at *;have BY0:=Hd BY;have HO0:=Hd hown;clear hT BY hown;go_wp2_with fail;refine(TT _ _ htk5).mono ?_;rintro e w6 ⟨_,rfl,rfl,hg6,htk6⟩;have hb6:=below_take hb5 htl hg6;go_wp2_with fail;refine(TK _ _ htk6).mono ?_;rintro e w7 ⟨u,s7,rfl,hu,hg7,htk7⟩;have hb7:=below_take hb6 htl hg7;have BY7:=BY0.out.step hb7;have hown7:=HO0.out.below (Nat.le_refl _) hb7;have hbw7:=below_then hbw hb7;have hb8:=below_one w7
 first|(have:=m36f1fd;exact q36f1fd)|(have:=m95388a;exact q95388a)):p:=h
theorem qd2ed57 (h:p:=by
 clear hdq hxq hoq htq hvq hm hE1 hE2 hxr hxe nbr hc hLL;go_wp2_with fail;change bodyPost Tryz.prog _ _ _ _ (st3 wq w.heap.size (.int .i64 p) (.bool true) (.slice aL LL.length cL));rw[←hwe];refine bodyPost_ret (v:=.agg #[.int .i64 p,.bool true,.slice aL LL.length cL]) (by simp[results,Tryz.results54,go_sem,z0,z1,z2]) rfl ?_;exact HE.out):p:=h
theorem q7447d2 (h:p:=by
 have hab:a≠[]∨b≠[]:=by
  rw[e] at hl2;cases a with
  | nil=>cases b with
   | nil=>simp at hl2
   | cons=>exact .inr (by simp)
  | cons=>exact .inl (by simp)
 have hk0:keyAt (a++(c.1,putT n c.2 key v)::b) 0=[]:=by
  rw[e] at h0;cases a<;>simpa[keyAt] using h0
 obtain⟨q,m,e1,e2,e3,e4,e5⟩:=mend_ok (p:=0) hc i1 i2 hk0 (.inr hab);rw[hput,e1];have hsm:sumT (.node 0 (a++(c.1,putT n c.2 key v)::b))=sumT (.node p l):=by
  rw[e,sum_node_append 0 0 0,sum_node_cons 0 0,sum_node_append p 0 0,sum_node_cons 0 0 c]
 have hq:sumT (.node q m)=sumT (.node 0 m):=rfl;exact⟨shape_node e2 e3,by omega,fun p' l' e=>by cases e⟩):p:=h
theorem qf3880a (h:p:=by
 rw[hput];have hkind:=kids_kind h1;cases n with
 | zero=>exact hp.1.elim
 | succ n=>
  rw[ents_mend (by
   intro d hd;have ht:(putT (n+1) c.2 key v).isLeaf=decide (n+1=1):=shape_kind i1;rw[ht]
   rcases List.mem_append.1 hd with hd|hd
   ·exact hkind d (by rw[e];simp[hd])
   ·rcases List.mem_cons.1 hd with rfl|hd
    ·exact ht
    ·exact hkind d (by rw[e];simp[hd]))]
  rw[ents_node,e,entsK_append,entsK_cons,entsK_append,entsK_cons,ih];obtain⟨q1,q2,q3⟩:=hc;have hA:∀d∈entsK (n+1) a,d.1<key:=by
   rcases q1 with⟨rfl,_⟩|⟨ha,e1,e2,e3,rfl⟩
   ·intro d hd;simp[entsK] at hd
   ·intro d hd
    have:=(kids_ents (fun h=>shape_ents h) e1).2 d hd;exact klt_le (this.2.2.1.resolve_left e2.1) g1
  have hB:∀d∈entsK (n+1) b,key<d.1:=by
   rcases q2 with⟨rfl,_⟩|⟨d,r,rfl,rfl,e1,e2,e3⟩
   ·intro d hd;simp[entsK] at hd
   ·intro d' hd
    have:=(kids_ents (fun h=>shape_ents h) e3).2 d' hd;exact klt_le (g2.resolve_left e1.1) this.2.1
  rw[putL_ahead hA,putL_behind hB]):p:=h
theorem q85e500 (h:p:=by
 obtain⟨i1,i2,i3⟩:=put_ok hp.1 hp.2.2 (fun q m e=>good_len (p:=q) (by rw[←e];exact hp)) hk g1 g2 hv;have hset:l.set (wayF (keysOf l) key) (keyAt l (wayF (keysOf l) key),putT n (kidAt l (wayF (keysOf l) key)) key v)=a++(c.1,putT n c.2 key v)::b:=by
  rw[←hal]
  conv=>lhs;rw[e]
  rw[keyAt_at,kidAt_at,List.set_append_right _ _ (Nat.le_refl _),Nat.sub_self,List.set_cons_zero]
 have hput:putT (n+1) (.node p l) key v=mendT 0 (a++(c.1,putT n c.2 key v)::b) a.length:=by
  show mendT 0 _ _=_;rw[hset,hal]
 first|(have:=m7447d2;exact q7447d2)|(have:=mf3880a;exact qf3880a)):p:=h
theorem q931089 (h:p:=by
 go_wp2
 go_round
 case rel=>exact⟨k+1,by omega,by go_num,by rw[H.out];go_num⟩
 case measure=>simp[intOf];omega):p:=h
theorem qe9cca3 (h:p:=by
 refine bkw hK (by with_reducible assumption) (fun hHeld=>?_);clear hK K;refine tks [5,6] ?_;refine tkn [7,8] ?_;refine tkn [9,10] ?_;refine tks [11,12] ?_;refine wpAnyH_done (by kernel_rfl) ?_ _;refine NoPanic.normal ?_;have hb8:=below_then hbw hC7;go_wp2_with fail;go_ret;exact⟨ret_bool (by rw[HN.out,hg2,Bool.false_and]),hb8⟩):p:=h
theorem q317315 (h:p:=by
 go_wp2_with fail
 go_round
 case rel=>exact⟨0+1,by omega,by go_num,HT2.out⟩
 case measure=>simp[intOf];omega):p:=h
theorem qcf3b72 (h:p:=by
 by_cases hlt:i<l.length
 ·have H1L:TabR 4 (RcOn F n w) w a l.length c (cellsR (.leaf 0 l)):=H1.out
  obtain⟨b,off,y,pa,pn,pc,ka,kn,kc,rfl,hbb,hy,_,hrow,_,_,_,k0,k1,k2,k3⟩:=RNodeOn.cell H1L hlt;rw[cellsR_leaf] at hy;obtain⟨x,hx1,hx2⟩:=Option.map_eq_some_iff.1 hy;subst hx2;obtain⟨key,tv⟩:=x;dsimp only at *;have hpg:tv.pages=[]:=HV.out _ (List.mem_of_getElem? hx1);rw[hpg] at hrow;have hpn:pn=0:=hrow.1.symm;subst hpn;obtain⟨S0,hS0⟩:∃x,((l.take i).map fun c=>needC c.2.data.length).sum=x:=⟨_,rfl⟩
  obtain⟨N0,hN0⟩:∃x,needC tv.data.length=x:=⟨_,rfl⟩
  have hS1:((l.take (i+1)).map fun c=>needC c.2.data.length).sum=S0+N0:=by rw[sum_take_succ _ hx1,hS0];exact congrArg _ hN0
  have hS9:=sum_take_le (fun c:List UInt8×Tv=>needC c.2.data.length) l (i+1);have mba6203:=trivial;exact q74a8f7
 ·have hin:i=l.length:=by omega
  have q1:decide ((i:Int)<(l.length:Int))=false:=decide_eq_false (by omega);have q2:decide (i<l.length)=false:=decide_eq_false hlt;have hm:=HM.out;have hfin:((1+((l.take i).map fun c=>needC c.2.data.length).sum:Nat):Int)=(m:Int):=by rw[hin,List.take_length,hm]
  rw[hfin];have HBW:=Hd hbw;clear hbw hx hfin hm hin;go_wp2_with fail;go_ret;exact⟨rfl,HBW.out⟩):p:=h
theorem qac5453 (h:p:=by
 by_cases hlt:i<l.length
 ·have H1L:TabR 4 (RcOn F n w) w a l.length c (cellsR (.leaf 0 l)):=H1.out
  obtain⟨b,off,y,pa,pn,pc,ka,kn,kc,rfl,hbb,hy,_,hrow,_,htk,_,k0,k1,k2,k3⟩:=RNodeOn.cell H1L hlt;rw[cellsR_leaf] at hy;obtain⟨x,hx1,hx2⟩:=Option.map_eq_some_iff.1 hy;subst hx2;obtain⟨key,tv⟩:=x;dsimp only at *;have hpg:tv.pages=[]:=HV.out _ (List.mem_of_getElem? hx1);rw[hpg] at hrow;have hpn:pn=0:=hrow.1.symm;subst hpn;have hpc:pc≤9223372036854775807:=by have:=hrow.2.2.1;unfold maxLen at this;omega
  have g2:=(hbw.cell (p:=⟨b,off+i*4+2,none⟩) hbb).trans k2;have q1:decide ((i:Int)<(l.length:Int))=true:=decide_eq_true (by omega);have q2:decide (i<l.length)=true:=decide_eq_true hlt;have HBW:=Hd hbw;have HX:=Hd hx;clear hbw hx hrow hy hx1 htk k0 k1 k2 k3 hpg
  go_wp2_with (at_builtin;refine wpList_append_run rfl _ _ _ _ rfl rfl rfl (append_none _ _ _) ?_)
  go_roundw
  case rel=>exact⟨i+1,hlt,by go_num,rfl,HBW.out,HX.out⟩
  case measure=>simp[intOf];omega
 ·have q1:decide ((i:Int)<(l.length:Int))=false:=decide_eq_false (by omega)
  have q2:decide (i<l.length)=false:=decide_eq_false hlt;have HBW:=Hd hbw;clear hbw hx;go_wp2_with fail;go_ret;exact⟨rfl,HBW.out⟩):p:=h
theorem q706486 (h:p:=by
 by_cases hlt:i<l.length
 ·have H1L:TabR 4 (RcOn F n w) w a l.length c (cellsR (.node 0 l)):=H1.out
  obtain⟨b,off,y,pa,pn,pc,ka,kn,kc,rfl,hbb,hy,_,_,_,htk,_,k0,k1,k2,k3⟩:=RNodeOn.cell H1L hlt;rw[cellsR_node] at hy;obtain⟨x,hx1,hx2⟩:=Option.map_eq_some_iff.1 hy;subst hx2;obtain⟨key,kid⟩:=x;dsimp only at *;have hkb:Bare kid:=HV.out _ (List.mem_of_getElem? hx1);have hkm:=(HBK.out _ (List.mem_of_getElem? hx1)).2;obtain⟨b2,off2,y2,cs2,rfl,hb2,hy2,hl2,hon2,hcs2⟩:=TabR.at htk (k:=0) (by have h9:([kid]:List Tr).length=kn:=htk.1;simp at h9;omega);have hy3:y2=kid:=by simpa using hy2.symm
  subst hy3;obtain⟨ka',kn',kc',e9⟩:=RNodeOn.open_pos hon2;subst e9;have r0:=hcs2 0 _ rfl;have r1:=hcs2 1 _ rfl;have r2:=hcs2 2 _ rfl;simp only[Nat.zero_mul,Nat.add_zero] at r0 r1 r2;have hkn:0<kn:=by have h9:([y2]:List Tr).length=kn:=htk.1;simp at h9;omega
  obtain⟨S0,hS0⟩:∃x,((l.take i).map fun c=>freshN n c.2).sum=x:=⟨_,rfl⟩
  obtain⟨N0,hN0⟩:∃x,freshN n y2=x:=⟨_,rfl⟩
  have hS1:((l.take (i+1)).map fun c=>freshN n c.2).sum=S0+N0:=by rw[sum_take_succ _ hx1,hS0];exact congrArg _ hN0
  have hS9:=sum_take_le (fun c:List UInt8×Tr=>freshN n c.2) l (i+1);have me99ff1:=trivial;exact q74a8f7
 ·have hin:i=l.length:=by omega
  have q1:decide ((i:Int)<(l.length:Int))=false:=decide_eq_false (by omega);have q2:decide (i<l.length)=false:=decide_eq_false hlt;have hm:=HM.out;have hfin:((1+((l.take i).map fun c=>freshN n c.2).sum:Nat):Int)=(m:Int):=by rw[hin,List.take_length,hm]
  rw[hfin];have HBW:=Hd hbw;clear hbw hx hfin hm hin;go_wp2_with fail;go_ret;exact⟨rfl,HBW.out⟩):p:=h
theorem q1690c0 (h:p:=by
 by_cases hlt:i<l.length
 ·have H1L:TabR 4 (RcOn F n w) w a l.length c (cellsR (.node 0 l)):=H1.out
  obtain⟨b,off,y,pa,pn,pc,ka,kn,kc,rfl,hbb,hy,_,hrow,_,htk,_,k0,k1,k2,k3⟩:=RNodeOn.cell H1L hlt;rw[cellsR_node] at hy;obtain⟨x,hx1,hx2⟩:=Option.map_eq_some_iff.1 hy;subst hx2;obtain⟨key,tv⟩:=x;dsimp only at *;have hpn:pn=0:=hrow.1.symm;subst hpn;have hpc:pc≤9223372036854775807:=by have:=hrow.2.2.1;unfold maxLen at this;omega
  have g2:=(hbw.cell (p:=⟨b,off+i*4+2,none⟩) hbb).trans k2;have q1:decide ((i:Int)<(l.length:Int))=true:=decide_eq_true (by omega);have q2:decide (i<l.length)=true:=decide_eq_true hlt;have hkb:Bare tv:=HV.out _ (List.mem_of_getElem? hx1);have hkm:=(HBD.out.2 _ (List.mem_of_getElem? hx1)).2;obtain⟨b2,off2,y2,cs2,rfl,hb2,hy2,hl2,hon2,hcs2⟩:=TabR.at htk (k:=0) (by have h9:([tv]:List Tr).length=kn:=htk.1;simp at h9;omega);have hy3:y2=tv:=by simpa using hy2.symm
  subst hy3;obtain⟨ka',kn',kc',e9⟩:=RNodeOn.open_pos hon2;subst e9;have r0:=hcs2 0 _ rfl;have r1:=hcs2 1 _ rfl;have r2:=hcs2 2 _ rfl;simp only[Nat.zero_mul,Nat.add_zero] at r0 r1 r2;have hkn:0<kn:=by have h9:([y2]:List Tr).length=kn:=htk.1;simp at h9;omega
  have C:=IH (hon2.agree (AgreeF.of_below hbw)) hkb hkm;have s0:=(hbw.cell (p:=⟨b2,off2,none⟩) hb2).trans r0;have s1:=(hbw.cell (p:=⟨b2,off2+1,none⟩) hb2).trans r1;have s2:=(hbw.cell (p:=⟨b2,off2+2,none⟩) hb2).trans r2;have g3:=(hbw.cell (p:=⟨b,off+i*4+3,none⟩) hbb).trans k3;have q5:decide ((0:Int)<(kn:Int))=true:=decide_eq_true (by omega);have q6:decide (0<kn)=true:=decide_eq_true hkn;have HBW:=Hd hbw;have HX:=Hd hx;clear hbw hx hrow hy hx1 htk k0 k1 k2 k3 hy2 hon2 hkb hkm hcs2 r0 r1 r2
  go_wp2_with (at_builtin;refine wpList_append_run rfl _ _ _ _ rfl rfl rfl (append_none _ _ _) ?_)
  refine C.mono ?_;rintro e wx ⟨rfl,hbx⟩;have HB2:=Hd (HBW.out.trans (hbx.mono HBW.out.size));have HX2:=Hd (HX.out.step hbx);clear hbx
  go_wp2_with (at_builtin;refine wpList_append_run rfl _ _ _ _ rfl rfl rfl (append_none _ _ _) ?_)
  go_roundw
  case rel=>exact⟨i+1,hlt,by go_num,rfl,HB2.out,HX2.out⟩
  case measure=>simp[intOf];omega
 ·have q1:decide ((i:Int)<(l.length:Int))=false:=decide_eq_false (by omega)
  have q2:decide (i<l.length)=false:=decide_eq_false hlt;have HBW:=Hd hbw;clear hbw hx;go_wp2_with fail;go_ret;exact⟨rfl,HBW.out⟩):p:=h
theorem q9da7d8 (h:p:=by
 obtain⟨i,hi,rfl,rfl,hbw,hx⟩:=hrel;have c0:=hx.cell 0 0 rfl rfl;have c1:=hx.cell 0 1 rfl rfl;have c2:=hx.cell 0 2 rfl rfl;have iw2:IntKind.i64.wrap ((i:Int)+1)=(i:Int)+1:=by simp[IntKind.wrap,IntKind.signed,IntKind.bits];omega
 first|(have:=mcf3b72;exact qcf3b72)|(have:=mac5453;exact qac5453)|(have:=m706486;exact q706486)|(have:=m1690c0;exact q1690c0)):p:=h
theorem q44d2aa (h:p:=by
 have HO:=Hd ho10;have HB10:=Hd hb10;clear ho10 hb10 B10 hg10 hr10 hown9 hk91 hk92 hk93 ho9 ha9 hr9 B9 hC9 hg9 hs8 ho8 B8 hC8 hb8 B7 hC7 hb7 ho7 hC B6 B6d c0 c1 c2 c3 c4 hvb hvg;go_wp2_with fail;go_roundw
 case rel=>exact⟨k+1,_,by omega,by go_num,rfl,HO.out,HB10.out⟩
 case measure=>simp[intOf];omega):p:=h
theorem q5a1aa4 (h:p:=by
 show Calls _ _ #[.pointer (some ⟨sb,0,none⟩),.agg #[.int .i64 0,.bool true,.slice a l.length c]] _ _;have hne:l≠[]:=hl0;have hpos:0<l.length:=List.length_pos_iff.2 hl0;have q0:((l.length:Int) == 0)=false:=by simp;omega
 have q0':(l.length == 0)=false:=by simp;exact hl0
 have hfr:freshN (n+1) (.leaf 0 l)=1+(l.map fun c=>needC c.2.data.length).sum:=by unfold freshN;rw[if_neg hl0]
 rw[hfr] at hf hws;have HI0:=Hd (show(([]:List Rc)=(([]:List (List UInt8×Tv)).map fun c=>(⟨c.1,c.2,none⟩:Rc))∧([]:List En)=([]:List (List UInt8×Tv)).map entV∧(layVs l left).1=[]++(layVs (l.drop 0) left).1∧ws++(layVs l left).2.1=ws++(layVs (l.drop 0) left).2.1∧((l.drop 0).map fun c=>needC c.2.data.length).sum+1≤left.length∧(layVs l left).2.2=(layVs (l.drop 0) left).2.2∧ws.length+((l.drop 0).map fun c=>needC c.2.data.length).sum+1≤40000) from⟨rfl,rfl,by simp,by simp,by rw[List.drop_zero];omega,by simp,by rw[List.drop_zero];omega⟩);clear hf hws hfr hne;clear h hG hB hb hbk hv h1 hfa hcn hbB hsB hxB hvg hLM hwB hy;go_enter Tryz.func91,Tryz.ntmps91;go_upto_region 5 with(fail)
 rw[←HWB.out];go_wp2_with fail
 go_loopw [7,8] (fun s7 _ wr=>∃(i:Nat) (vi:Value) (ws2:List Wr) (la2:Option Addr) (lc2:Nat) (left2:List Int) (vC:Value) (LL:List (Cl 4)) (ys:List Rc) (vE:Value) (es:List En) (dn:List (List UInt8×Tv)),i≤l.length∧s7=.int .i64 i∧LL.length=i∧es.length=i∧LM F w wB sb vL vL (w.heap.size+1+1) (w.heap.size+1+1+1) (w.heap.size+1) n true vi ws2 la2 lc2 left2 vC LL ys vE es wr∧dn.length=i∧(ys=(dn.map fun c=>(⟨c.1,c.2,none⟩:Rc))∧es=dn.map entV∧(layVs l left).1=dn++(layVs (l.drop i) left2).1∧ws++(layVs l left).2.1=ws2++(layVs (l.drop i) left2).2.1∧((l.drop i).map fun c=>needC c.2.data.length).sum+1≤left2.length∧(layVs l left).2.2=(layVs (l.drop i) left2).2.2∧ws2.length+((l.drop i).map fun c=>needC c.2.data.length).sum+1≤40000)) (fun s _ _=>l.length-(intOf s).toNat)
 case atStart=>exact⟨0,vL,ws,la,lc,left,_,[],[],_,[],[],Nat.zero_le _,rfl,rfl,rfl,HLM.out,rfl,HI0.out⟩
 case round=>
  have m67190f:=trivial;exact q8c70ab):p:=h
theorem q1da0d8 (h:p:=by
 show Calls _ _ #[.pointer (some ⟨sb,0,none⟩),.agg #[.int .i64 0,.bool false,.slice a l.length c]] _ _;have hfr:freshN (n+1) (.node 0 l)=1+(l.map fun c=>freshN n c.2).sum:=by rw[freshN]
 rw[hfr] at hf hws;have HI0:=Hd (show(([]:List Rc)=(([]:List (List UInt8×Tr)).map fun c=>(⟨c.1,⟨[],[]⟩,some c.2⟩:Rc))∧([]:List En)=([]:List (List UInt8×Tr)).map entK∧(layKs (layT n) l left).1=[]++(layKs (layT n) (l.drop 0) left).1∧ws++(layKs (layT n) l left).2.1=ws++(layKs (layT n) (l.drop 0) left).2.1∧((l.drop 0).map fun c=>freshN n c.2).sum+1≤left.length∧(layKs (layT n) l left).2.2=(layKs (layT n) (l.drop 0) left).2.2∧ws.length+((l.drop 0).map fun c=>freshN n c.2).sum+1≤40000) from⟨rfl,rfl,by simp,by simp,by rw[List.drop_zero];omega,by simp,by rw[List.drop_zero];omega⟩);clear hf hws hfr;clear h hG hB hb hbk hv h1 hfa hcn hbB hsB hxB hvg hLM hwB hy;go_enter Tryz.func91,Tryz.ntmps91;go_upto_region 5 with(fail)
 rw[←HWB.out];go_wp2_with fail
 go_loopw [7,8] (fun s7 _ wr=>∃(i:Nat) (vi:Value) (ws2:List Wr) (la2:Option Addr) (lc2:Nat) (left2:List Int) (vC:Value) (LL:List (Cl 4)) (ys:List Rc) (vE:Value) (es:List En) (dn:List (List UInt8×Tr)),i≤l.length∧s7=.int .i64 i∧LL.length=i∧es.length=i∧LM F w wB sb vL vL (w.heap.size+1+1) (w.heap.size+1+1+1) (w.heap.size+1) n false vi ws2 la2 lc2 left2 vC LL ys vE es wr∧dn.length=i∧(ys=(dn.map fun c=>(⟨c.1,⟨[],[]⟩,some c.2⟩:Rc))∧es=dn.map entK∧(layKs (layT n) l left).1=dn++(layKs (layT n) (l.drop i) left2).1∧ws++(layKs (layT n) l left).2.1=ws2++(layKs (layT n) (l.drop i) left2).2.1∧((l.drop i).map fun c=>freshN n c.2).sum+1≤left2.length∧(layKs (layT n) l left).2.2=(layKs (layT n) (l.drop i) left2).2.2∧ws2.length+((l.drop i).map fun c=>freshN n c.2).sum+1≤40000)) (fun s _ _=>l.length-(intOf s).toNat)
 case atStart=>exact⟨0,vL,ws,la,lc,left,_,[],[],_,[],[],Nat.zero_le _,rfl,rfl,rfl,HLM.out,rfl,HI0.out⟩
 case round=>
  have mcb5b26:=trivial;exact q8c70ab):p:=h
theorem q9f992a (h:p:=by
 have HNB0:=Hd (hxB.cell 3 0 rfl rfl);have HNB1:=Hd (hxB.cell 3 1 rfl rfl);have HNB2:=Hd (hxB.cell 3 2 rfl rfl);have HV:=Hd hv;have H1:=Hd h1;have HFA:=Hd hfa;have HG:=Hd hG;have HBK:=Hd hbk;have HLM:=Hd hLM;have HSB:=Hd hsB;have HVG:=Hd hvg;have HWB:=Hd hwB;have HFB:=Hd (show ∀b,F b→b<sb from hy.fb);have hzN:=zero_refN;have hzC:=zero_refC;have hzM:∀W:World,(zeroValue 221).run Tryz.prog W=.ok (.agg #[.bool false,.slice none 0 0]) W:=fun W=>by kernel_rfl
 first|(have:=m5a1aa4;exact q5a1aa4)|(have:=m1da0d8;exact q1da0d8)):p:=h
theorem qa87fe9 (h:p:=by
 by_cases hz0:z=0
 ·subst hz0
  have m587032:=trivial;exact q4a8d51
 have HTE:Hid (topT (N+1) t=mendT 0 [([],t)] 0):=Hd (topT_mend HNK.out (by rw[HS.out,hz];exact hz0));have hz1:(z == 0)=false:=by simpa using hz0
 have HX4:=Hd hx4;have HBW4:=Hd hbw4;clear ho4 hrow CS n0 n1 n2 hz hz0 hb4;obtain⟨W6,hW6⟩:∃x,(w4.alloc (.cells #[.int .i64 p,.bool true,.slice a m c] 27))=x:=⟨_,rfl⟩
 have m936347:=trivial;exact q801141):p:=h
theorem q53b955 (h:p:=by
 by_cases hz0:z=0
 ·subst hz0
  have m7e1cf3:=trivial;exact q4a8d51
 have HTE:Hid (topT (N+1) t=mendT 0 [([],t)] 0):=Hd (topT_mend HNK.out (by rw[HS.out,hz];exact hz0));have hz1:(z == 0)=false:=by simpa using hz0
 have HX4:=Hd hx4;have HBW4:=Hd hbw4;clear ho4 hrow CS n0 n1 n2 hz hz0 hb4;obtain⟨W6,hW6⟩:∃x,(w4.alloc (.cells #[.int .i64 p,.bool false,.slice a m c] 27))=x:=⟨_,rfl⟩
 have m2ab758:=trivial;exact q801141):p:=h
theorem q3639fe (h:p:=by
 go_wp2_with fail;refine CS.mono ?_;rintro e w4 ⟨v4,rfl,ho4,hb4⟩;obtain⟨a4,c4,rfl,hrow⟩:=Row.of_own ho4;go_wp2_with fail;refine(refAt_any _ _ _ _ _ hrow HSM.out).mono ?_;rintro e w5 ⟨rfl,rfl⟩;have hx4:=HX2.out.step hb4;have hbw4:=below_via HB2.out hb4;have hs4:w.heap.size+2≤w4.heap.size:=by have:=hb4.size;omega
 obtain⟨z,hz⟩:∃z,atF S=z:=⟨_,rfl⟩
 rw[hz];have q0:=hx4.cell 1 0 rfl rfl;have q1:=hx4.cell 1 1 rfl rfl;have q2:=hx4.cell 1 2 rfl rfl
 first|(have:=ma87fe9;exact qa87fe9)|(have:=m53b955;exact q53b955)):p:=h
theorem q426cc0 (h:p:=by
 have HO:=Hd ho9;have HB9:=Hd hz9;have HB9x:=Hd B9;clear ho9 hz9 B9 hg9 hE hbe
 go_wp2_with (at_builtin;refine wpList_append_run rfl _ _ _ _ rfl rfl rfl hr9 ?_)
 go_roundw
 case rel=>exact⟨k+1,_,by omega,by go_num,rfl,HO.out,HB9x.out,HB9.out⟩
 case measure=>simp[intOf];omega):p:=h
theorem q432908 (h:p:=by
 go_wp2_with fail;go_ret;exact⟨ret_bool HF.out.symm,hb8⟩):p:=h
theorem q0707a3 (h:p:=by
 go_enter Tryz.func237,Tryz.ntmps237
 go_wp2_with (first|(go_at_call 233;(with_reducible refine(K _).mono ?_);rintro e w' ⟨rfl,rfl⟩)|(go_at_call 234;(with_reducible refine(P _).mono ?_);rintro e w' ⟨rfl,rfl⟩))
 all_goals
  go_ret;exact ret_b (by simp[HM.out,HF.out]) HB.out):p:=h
theorem qa3ab6a (h:p:=by
 have hx3:Boxes w3 [(w2.heap.size,#[.string (strOf key),.string (strOf d),.bool false,.int .i64 0,.int .i64 0].toList),(w.heap.size+1,#[.string ⟨#[]⟩,.string ⟨#[]⟩,.bool false,.int .i64 0,.int .i64 0].toList),(w.heap.size,#[.string (strOf key),.string (strOf d),.slice pa 0 pc,.slice ka kn kc].toList)]:=by
  exact qb8d653
 have mcf66b1:=trivial;exact qc687a8):p:=h
theorem qc62d7c (h:p:=by
 have hx3:Boxes w3 [(w2.heap.size,#[.string (strOf key),.string (strOf d),.bool false,.int .i64 0,.int .i64 0].toList),(w.heap.size+1,#[.string ⟨#[]⟩,.string ⟨#[]⟩,.bool false,.int .i64 0,.int .i64 0].toList),(w.heap.size,#[.string (strOf key),.string (strOf d),.slice pa pn pc,.slice ka kn kc].toList)]:=by
  exact qb8d653
 have m3e5a06:=trivial;exact qc687a8):p:=h
theorem q74bf1b (h:p:=by
 have hx3:Boxes w3 [(w2.heap.size,#[.string (strOf key),.string (strOf d),.bool false,.int .i64 0,.int .i64 0].toList),(w.heap.size+1,#[.string ⟨#[]⟩,.string ⟨#[]⟩,.bool false,.int .i64 0,.int .i64 0].toList),(w.heap.size,#[.string (strOf key),.string (strOf d),.slice pa pn pc,.slice (some ⟨kb,ko,none⟩) kn kc].toList)]:=by
  exact qb8d653
 have m1363ba:=trivial;exact qc687a8):p:=h
theorem q7660cc (h:p:=by
 have HS2:=Hd (show w2.heap.size=w.heap.size+2 by rw[←hw2];simp);obtain⟨w3,hw3⟩:∃x,x=w2.alloc (.cells #[.string (strOf key),.string (strOf d),.bool false,.int .i64 0,.int .i64 0] 226):=⟨_,rfl⟩
 have hb23:Below w2.heap.size w2 w3:=by rw[hw3];exact Below.al (Below.refl _ _)
 first|(have:=ma3ab6a;exact qa3ab6a)|(have:=mc62d7c;exact qc62d7c)|(have:=m74bf1b;exact q74bf1b)):p:=h
theorem q857964 (h:p:=by
 go_wp2_with fail;change bodyPost Tryz.prog _ _ Exit.ret _ (st3 wq w.heap.size (.int .i64 p) (.bool false) (.slice none 0 0));rw[←hwe];refine bodyPost_ret (v:=.agg #[.int .i64 p,.bool false,.slice none 0 0]) (by simp[results,Tryz.results54,go_sem,z0,z1,z2]) rfl ?_;exact HE.out):p:=h
theorem q48fd55 (h:p:=by
 rw[cellsR_leaf] at hyc;have mcc2f36:=trivial;exact qb73c4b):p:=h
theorem q4f84ea (h:p:=by
 rw[cellsR_node] at hyc;have m2d0eeb:=trivial;exact qb73c4b):p:=h
theorem qf53fac (h:p:=by
 obtain⟨b,off,y,pa,pn,pc,ka,kn,kc,rfl,hbb,hyc,_,hrow,_,htk,hfk,k0,k1,k2,k3⟩:=RNodeOn.cell H1L hlt;have hGb:G b:=(HFA.out.resolve_left (by omega)) b off rfl;have hgb:=HG.out b hGb;have hkeep:∀(b' o:Nat),G b'→wr.cell? ⟨b',o,none⟩=w.cell? ⟨b',o,none⟩:=fun b' o hg=>World.cell?_of_block (hm.ol.block (k:=b') (HG.out b' hg).1 (fun hmm=>by
  rcases RS.mem.1 hmm with e|e
  ·exact(HG.out b' hg).2.1 e
  ·exact(HG.out b' hg).2.2 e))
 first|(have:=m48fd55;exact q48fd55)|(have:=m4f84ea;exact q4f84ea)):p:=h
theorem q1555f1 (h:p:=by
 refine⟨?_,h2⟩
 rcases h1 with⟨_,q',hq',he⟩|⟨h0,_⟩
 ·rw[Int.toNat_natCast,hq] at hq';cases hq';exact he
 ·exact absurd rfl h0):p:=h
theorem q5ccb74 (h:p:=by
 refine bkw hK (by trivial) (fun hHeld=>?_);clear hK K;refine rdy 3 (fun K hK=>?_);refine step_convert_run rfl _ _ _ rfl rfl hcv ?_;refine bkw hK (by trivial) (fun hHeld=>?_);clear hK K;refine rdy 4 (fun K hK=>?_);refine step_buildSlice_one rfl _ _ rfl rfl bs1 ?_;exact q299ef4):p:=h
theorem qe90b89 (h:p:=by
 rw[freshN,entsT];omega):p:=h
theorem qf0453a (h:p:=by
 have:=h3 p l rfl;rw[freshN,entsT];omega):p:=h
theorem q28a53e (h:p:=by
 have hsum:∀l:List (List UInt8×Tr),(∀c∈l,freshN n c.2+1≤6*(entsT n c.2).length)→(l.map fun c=>freshN n c.2).sum+l.length≤6*(l.flatMap fun c=>entsT n c.2).length:=fun l hl=>by
  induction l with
  | nil=>simp
  | cons c r ih=>
   simp only[List.map_cons,List.sum_cons,List.length_cons,List.flatMap_cons,List.length_append];have:=hl c (by simp);have:=ih (fun x hx=>hl x (List.mem_cons_of_mem _ hx));omega
 have:=hsum l hall
 first|(have:=me90b89;exact qe90b89)|(have:=mf0453a;exact qf0453a)):p:=h
theorem q35e021 (h:p:=by
 go_enter Tryz.func59,Tryz.ntmps59;go_wp2_with fail;refine hE.mono ?_;rintro e w' ⟨rfl,rfl⟩
 go_wp2
 go_ret;exact⟨ret_int HD.out.symm,rfl⟩):p:=h
theorem qab3290 (h:p:=by
 have HV:=Hd hv;have H1:=Hd h1;have HX0:=Hd hX0;have HB0:=Hd hB0;have HBD:=Hd hb;show Calls _ _ #[.agg #[.int .i64 0,.bool false,.slice a l.length c]] _ _;clear h hB hb hv h1 hX0 hB0 hcn;go_enter Tryz.func167,Tryz.ntmps167;go_wp2_with fail
 go_loopw [3,4] (fun s3 s4 wr=>∃i:Nat,i≤l.length∧s4=.int .i64 i∧s3=.slice none 0 0∧Below w.heap.size w wr∧Boxes wr [(w.heap.size,[.int .i64 0,.bool false,.slice a l.length c])]) (fun _ s _=>l.length-(intOf s).toNat)
 case atStart=>exact⟨0,Nat.zero_le _,rfl,rfl,HB0.out,HX0.out⟩
 case round=>
  have m1690c0:=trivial;exact q9da7d8):p:=h
theorem q274a0f (h:p:=by
 have c1:=hX0.cell 0 1 rfl rfl;have c2:=hX0.cell 0 2 rfl rfl;have HV:=Hd hv;have H1:=Hd h1;have HX0:=Hd hX0;have HB0:=Hd hB0;have HF:=Hd hf;show Calls _ _ #[.agg #[.int .i64 0,.bool false,.slice a l.length c]] _ _;obtain⟨m,hm⟩:∃m,freshN (n+1) (.node 0 l)=m:=⟨_,rfl⟩
 have hm2:m=1+(l.map fun c=>freshN n c.2).sum:=by rw[←hm,freshN]
 rw[hm] at hf;rw[hm];have HM:=Hd hm2;have HBK:=Hd hbk;clear h hB hb hv h1 hX0 hB0 hcn hm hm2 hbk;go_enter Tryz.func43,Tryz.ntmps43;go_wp2_with fail
 go_loopw [3,4,5] (fun s3 s4 _ wr=>∃i:Nat,i≤l.length∧s4=.int .i64 i∧s3=.int .i64 ((1+((l.take i).map fun c=>freshN n c.2).sum:Nat):Int)∧Below w.heap.size w wr∧Boxes wr [(w.heap.size,[.int .i64 0,.bool false,.slice a l.length c])]) (fun _ s _ _=>l.length-(intOf s).toNat)
 case atStart=>exact⟨0,Nat.zero_le _,rfl,rfl,HB0.out,HX0.out⟩
 case round=>
  have m706486:=trivial;exact q9da7d8):p:=h
theorem q3719f5 (h:p:=by
 have hcn:cntT (.node 0 l)=l.length:=rfl;rw[hcn] at h1;obtain⟨wb,hwb⟩:∃x,w.alloc (.cells #[.int .i64 0,.bool false,.slice a l.length c] 27)=x:=⟨_,rfl⟩
 have hB0:Below w.heap.size w wb:=by rw[←hwb];exact Below.al (Below.refl _ _)
 have hX0:Boxes wb [(w.heap.size,[.int .i64 0,.bool false,.slice a l.length c])]:=by rw[←hwb];exact(Boxes.nil w).alloc #[.int .i64 0,.bool false,.slice a l.length c] 27 rfl
 have c0:=hX0.cell 0 0 rfl rfl
 first|(have:=mab3290;exact qab3290)|(have:=m274a0f;exact q274a0f)):p:=h
theorem q7a1f1a (h:p:=by
 have HT:Hid (FT=VA):=Hd (by rw[HFIT.out,hall,Bool.true_and]);clear hall;go_wp2_with fail;refine CC.mono ?_;rintro e w2 ⟨rfl,hb2⟩;have HB2:=Hd (HB.out.trans (hb2.mono HB.out.size));clear hb2;go_wp2_with fail;go_ret;exact⟨by rw[HT.out];simp,HB2.out⟩):p:=h
theorem q283548 (h:p:=by
 have hvals:∃vl:List Tv,TabR 2 (IsTv w) w va vn vc vl∧(∀v∈vl,v.data.length≤1000)∧fitT lo hi t=(fitTo lo hi lf t.keys m && vl.all valB):=by
  cases t with
  | leaf p l=>
   have:lf=true:=hlf.symm;subst this;refine⟨l.map (·.2),Raw.tab h2 h4.2.1,(fun v hv=>?_),?_⟩
   ·obtain⟨c,hc,rfl⟩:=List.mem_map.1 hv
    exact(hb.2 c hc).2
   ·have hm:l.length=m:=hm
    show(fitTo lo hi true (keysOf l) l.length && l.all fun c=>valB c.2)=(fitTo lo hi true (keysOf l) m && _);rw[hm,List.all_map];rfl
  | node p l=>
   have:lf=false:=hlf.symm;subst this;have hv0:V=[]:=h4.2.1;have hvn0:vn=0:=hvn;subst hvn0;have hm:l.length=m:=hm;refine⟨[],⟨rfl,h2.2.1,h2.2.2.1,h2.2.2.2.1,.inl rfl⟩,(fun v hv=>by cases hv),?_⟩;show fitTo lo hi false (keysOf l) l.length=(fitTo lo hi false (keysOf l) m && true);rw[hm,Bool.and_true]
 obtain⟨vl,hv1,hv2,hfit⟩:=hvals;have mcd5409:=trivial;exact q798742):p:=h
theorem q05e885 (h:p:=by
 rw[hlf,hm,hpg] at hh;have hB0:Below w.heap.size w (w.alloc (.cells #[.int .i64 pg,.bool lf,.slice ka m kc,.slice va vn vc,.slice ca cn cc] 50)):=Below.al (Below.refl _ _);have hX0:Boxes _ [(w.heap.size,[.int .i64 pg,.bool lf,.slice ka m kc,.slice va vn vc,.slice ca cn cc])]:=((Boxes.nil w).alloc #[.int .i64 pg,.bool lf,.slice ka m kc,.slice va vn vc,.slice ca cn cc] 50 rfl)
 obtain⟨wA,hwA⟩:∃wA,w.alloc (.cells #[.int .i64 pg,.bool lf,.slice ka m kc,.slice va vn vc,.slice ca cn cc] 50)=wA:=⟨_,rfl⟩
 rw[hwA] at hB0 hX0;rw[hlf,hm,hpg];have CF:=depth_any (hh.below hB0) hb hn [] [] true (by decide) (by decide);have mbdefa5:=trivial;exact qa8e0cc):p:=h
theorem q296b06 (h:p:=by
 obtain⟨ka,kc,va,vn,vc,ca,cn,cc,V,C,rfl,h1,h2,h3,h4⟩:=h.openK;obtain⟨_,r1,r2⟩:=h4.lens;obtain⟨lf,hlf⟩:∃x,t.isLeaf=x:=⟨_,rfl⟩
 obtain⟨m,hm⟩:∃x,cntT t=x:=⟨_,rfl⟩
 obtain⟨pg,hpg⟩:∃x,t.page=x:=⟨_,rfl⟩
 have hm9:m≤1000:=by rw[←hm];exact hb.cnt
 rw[hlf,hm] at r1 r2;have hvn:vn=if lf then m else 0:=by rw[←h2.1,r1]
 have hcn:cn=if lf then 0 else m:=by rw[←h3.1,r2]
 first|(have:=m283548;exact q283548)|(have:=m05e885;exact q05e885)):p:=h
theorem q7afd00 (h:p:=by
 have PU:∀W,Calls Tryz.prog 231 #[.agg #[],.agg #[.string (strOf e.v.data),.bool e.v.far,.int .i64 e.v.size,.int .i64 e.v.page]] W (OwnBytes 5 W (encV true e.v)):=fun W=>put_any true e.v W hl2
 have hmp:=m_putL;have mceea1d:=trivial;exact q4d3b76):p:=h
theorem qeaff28 (h:p:=by
 have PU:∀W,Calls Tryz.prog 238 #[.agg #[],.agg #[.string (strOf e.v.data),.bool e.v.far,.int .i64 e.v.size,.int .i64 e.v.page]] W (OwnBytes 5 W (encV false e.v)):=fun W=>put_any false e.v W hl2
 have hmp:=m_putB;have mdddc1f:=trivial;exact q4d3b76):p:=h
theorem qb0c694 (h:p:=by
 have B6:=(Boxes.nil wr).alloc #[.string (strOf e.key),.string (strOf e.v.data),.bool e.v.far,.int .i64 e.v.size,.int .i64 e.v.page] 211 rfl;have hb6:=below_one wr (.cells #[.string (strOf e.key),.string (strOf e.v.data),.bool e.v.far,.int .i64 e.v.size,.int .i64 e.v.page] 211);have hown6:=hown.below (Nat.le_refl _) hb6;have hbw6:=below_then hbw hb6;obtain⟨hl1,hl2⟩:=HI.out e (List.mem_of_getElem? hy);have T1:=fun W=>text_any e.key W (by omega)
 first|(have:=m7afd00;exact q7afd00)|(have:=meaff28;exact qeaff28)):p:=h
theorem q8ae8a2 (h:p:=by
 have HLO:=Hd hlo;have HOK:=Hd hok;have HDL:=Hd hdl;clear hd hop c0 c1 hy hbs hb11 hbd hy128 hlo hok hdl;go_upto_region 12 with(fail)
 have m4268bf:=trivial;exact qf5102a):p:=h
theorem q9b303c (h:p:=by
 have HWR:=Hd hstep.2;clear hd hwr hb hop c0 c1 hstep hy hym hbs hb11 hbd hy128;go_upto_region 8 with(fail)
 have ma27b0d:=trivial;exact qf5102a):p:=h
theorem q560125 (h:p:=by
 have cA:∀W,Below w2.heap.size w2 W→W.cell? ⟨bl,ol+i*2,none⟩=some (.int .i64 py):=fun W hW=>(hW.cell (p:=⟨bl,ol+i*2,none⟩) hbl).trans c0
 have cB:∀W,Below w2.heap.size w2 W→W.cell? ⟨bl,ol+i*2+1,none⟩=some (.string (strOf by9)):=fun W hW=>(hW.cell (p:=⟨bl,ol+i*2+1,none⟩) hbl).trans c1
 have hB0:Below w2.heap.size w2 wr.drew:=hb.drew;have hBx11:Below w2.heap.size w2 w11:=below_then hb hbd
 first|(have:=m8ae8a2;exact q8ae8a2)|(have:=m9b303c;exact q9b303c)):p:=h
theorem qb8d653 (h:p:=by
 rw[hw3];exact hx2.alloc #[.string (strOf key),.string (strOf d),.bool false,.int .i64 0,.int .i64 0] 226 (b:=w2.heap.size) rfl):p:=h
theorem q8b190f (h:p:=by
 have hRM:RM w wB sb a len cap d r v v2 (w.heap.size+1) w.heap.size n p false v2 (seen++[p]) ge (.slice none 0 0) [] [] wB:=
  ⟨by rw[←hwB];exact hxC.put 1 _ (by intro q hq;simp at hq;subst hq;simp),hdC.only hoB (fun k hk=>by simp at hk;subst hk;exact⟨by omega,hv2n _ (by omega) (by omega)⟩),own_nil wB _ 4 _,fun g hg=>by(cases hg),fun _=>Tells.nil,
   ((HO2.out.trans (Only.of_below hb25)).trans (hoC.mono (fun k hk=>by simp at hk;exact RS.mem.2 (.inl hk)))).then hoB (fun k hk=>by simp at hk;subst hk;exact .inr (by omega)),HT2.out,Turn.refl _ _,AgreeF.refl _,fun g hg=>⟨fun e=>hv2n g (by omega) (by omega) hg,fun e=>hv2n g (by omega) (by omega) hg,by have:=hv2g g hg;omega⟩,hsb,Nat.le_refl _,by omega,by omega⟩
 have mda4a5e:=trivial;exact q98be54):p:=h
theorem q0334aa (h:p:=by
 have hRM:RM w wB sb a len cap d r v v2 (w.heap.size+1) w.heap.size n p true v2 (seen++[p]) ge (.slice none 0 0) [] [] wB:=
  ⟨by rw[←hwB];exact hxC.put 1 _ (by intro q hq;simp at hq;subst hq;simp),hdC.only hoB (fun k hk=>by simp at hk;subst hk;exact⟨by omega,hv2n _ (by omega) (by omega)⟩),own_nil wB _ 4 _,fun g hg=>by(cases hg),fun _=>Tells.nil,
   ((HO2.out.trans (Only.of_below hb25)).trans (hoC.mono (fun k hk=>by simp at hk;exact RS.mem.2 (.inl hk)))).then hoB (fun k hk=>by simp at hk;subst hk;exact .inr (by omega)),HT2.out,Turn.refl _ _,AgreeF.refl _,fun g hg=>⟨fun e=>hv2n g (by omega) (by omega) hg,fun e=>hv2n g (by omega) (by omega) hg,by have:=hv2g g hg;omega⟩,hsb,Nat.le_refl _,by omega,by omega⟩
 have ma4cdfe:=trivial;exact q98be54):p:=h
theorem q49f56b (h:p:=by
 have hoB:Only [w.heap.size+1] wC wB:=by rw[←hwB];exact(Only.refl _ _).set _ _ (by simp)
 have hszC:wC.heap.size=w5.heap.size:=by rw[←hwC];simp
 have hszB:wB.heap.size=w4.heap.size+1:=by rw[←hwB];simp[hszC];omega
 have hv2n:∀b,w.heap.size≤b→b<w1.heap.size→v2.ownBlock≠some b:=HV2.out;have hv2g:∀g,v2.ownBlock=some g→g<w2.heap.size:=fun g hg=>(HD2.out.ge hg).2
 have hs1:=HS1.out
 first|(have:=m8b190f;exact q8b190f)|(have:=m0334aa;exact q0334aa)):p:=h
theorem q8ff3fd (h:p:=by
 have hne:((unpE b:Int) != 0)=true:=by simpa using hE
 have hne2:((unpE b:Int) == 0)=false:=by simpa using hE
 generalize unpE b=er at *;generalize unpK b=k at *;generalize unpL b=l at *;clear hE;go_enter Tryz.func96,Tryz.ntmps96;go_wp2_with fail;refine hun.mono ?_;rintro e w1 ⟨v1,rfl,_,hb1⟩;have BX:=BX.step hb1;have g0:=BX.cell 0 0 rfl rfl;have g1:=BX.cell 0 1 rfl rfl;have f0:=BX.frozen 0 0 rfl;have f1:=BX.frozen 0 1 rfl;go_wp2_with fail;refine bodyPost_ret (v:=.tuple #[.agg #[.bool false,.slice none 0 0],.int .i64 er]) (by simp[results,Tryz.results96,go_sem,g0,g1]) rfl (getpost_none rfl ?_);exact(((below_then hB hb1).setCell (Nat.le_refl _) _).setCell (Nat.le_refl _) _)):p:=h
theorem q8ed409 (h:p:=by
 rw[hE] at hun;have SH:=fun W=>shapes_any W
 have hkl:=(unpK b).toNat_lt;generalize (unpL b)=l at *;generalize hkd:(unpK b).toNat=kd at *;have hge:(decide ((kd:Int)≥3))=true:=by simp;omega
 have hge2:(decide ((3:Int)≤(kd:Int)))=true:=by simp;omega
 have hge3:(decide (3≤kd))=true:=by simp;omega
 unfold UnpPost at hun;rw[hkd] at hun;clear hE hkd hk;go_enter Tryz.func96,Tryz.ntmps96;go_wp2_with fail;refine hun.mono ?_;rintro e w1 ⟨v1,rfl,_,hb1⟩;have BX:=BX.step hb1;have hb:=below_then hB hb1;go_wp2_with fail;refine(SH _).mono ?_;rintro e w2 ⟨bs,rfl,hs2,hb2⟩;have BX:=BX.step hb2;have hb:=below_then hb hb2;have g0:=BX.cell 0 0 rfl rfl;have g1:=BX.cell 0 1 rfl rfl;have f0:=BX.frozen 0 0 rfl;have f1:=BX.frozen 0 1 rfl;go_wp2_with fail;refine bodyPost_ret (v:=.tuple #[.agg #[.bool false,.slice none 0 0],.int .i64 11]) (by simp[results,Tryz.results96,go_sem,g0,g1]) rfl (getpost_none rfl ?_);exact((hb.setCell (Nat.le_refl _) _).setCell (Nat.le_refl _) _)):p:=h
theorem q6f91dc (h:p:=by
 have hmany:=unp_many b;have hcl:=unp_cell b hE;have hlk:leafK b=true:=by rw[leafK,hk];rfl
 have hdec:(decide ((unpK b).toNat≤2))=true:=by rw[hk];rfl
 have hgE:getNE b=if (match decL true (unpL b) with|some l=>nodeB true l|none=>false) then 0 else 11:=by
  rw[getNE,if_neg (by rw[hE];simp),getNB,hdec,entN,hlk];rfl
 have hgL:getNL b=if getNE b=0 then (decL true (unpL b)).getD [] else []:=by rw[getNL,entN,hlk]
 have hgF:getNF b=if getNE b=0 then true else false:=by rw[getNF,hlk]
 rw[hE,hk] at hun;have SH:=fun W=>shapes_any W
 generalize unpL b=cl at *;generalize getNE b=gE at *;generalize getNL b=gL at *;generalize getNF b=gF at *;have HE:=Hd hgE;have HL:=Hd hgL;have HF:=Hd hgF;have HC:=Hd hcl;have hun:Calls Tryz.prog 138 #[.slice a n cap] (w.alloc (.cells #[.bool false,.slice none 0 0] 205)) fun e w'=>∃v,e=.returned (.tuple #[.int .u8 1,v,.int .i64 0])∧OwnBss w' (w.alloc (.cells #[.bool false,.slice none 0 0] 205)).heap.size v cl∧Below (w.alloc (.cells #[.bool false,.slice none 0 0] 205)).heap.size (w.alloc (.cells #[.bool false,.slice none 0 0] 205)) w':=hun
 have m61561b:=trivial;exact qda4906):p:=h
theorem q7e7c9f (h:p:=by
 have hmany:=unp_many b;have hcl:=unp_cell b hE;have hlk:leafK b=false:=by rw[leafK,hk];rfl
 have hdec:(decide ((unpK b).toNat≤2))=true:=by rw[hk];rfl
 have hgE:getNE b=if (match decL false (unpL b) with|some l=>nodeB false l|none=>false) then 0 else 11:=by
  rw[getNE,if_neg (by rw[hE];simp),getNB,hdec,entN,hlk];rfl
 have hgL:getNL b=if getNE b=0 then (decL false (unpL b)).getD [] else []:=by rw[getNL,entN,hlk]
 have hgF:getNF b=if getNE b=0 then false else false:=by rw[getNF,hlk]
 rw[hE,hk] at hun;have SH:=fun W=>shapes_any W
 generalize unpL b=cl at *;generalize getNE b=gE at *;generalize getNL b=gL at *;generalize getNF b=gF at *;have HE:=Hd hgE;have HL:=Hd hgL;have HF:=Hd hgF;have HC:=Hd hcl;have hun:Calls Tryz.prog 138 #[.slice a n cap] (w.alloc (.cells #[.bool false,.slice none 0 0] 205)) fun e w'=>∃v,e=.returned (.tuple #[.int .u8 2,v,.int .i64 0])∧OwnBss w' (w.alloc (.cells #[.bool false,.slice none 0 0] 205)).heap.size v cl∧Below (w.alloc (.cells #[.bool false,.slice none 0 0] 205)).heap.size (w.alloc (.cells #[.bool false,.slice none 0 0] 205)) w':=hun
 have m0d0552:=trivial;exact qda4906):p:=h
theorem q53920b (h:p:=by
 have hB:=below_one w (.cells #[.bool false,.slice none 0 0] 205);have BX:=(Boxes.nil w).alloc #[.bool false,.slice none 0 0] 205 rfl;have hun:=unpack_any a n cap b _ (h.below (Nat.le_refl _) hB) (hh.below (Nat.le_refl _) hB)
 first|(have:=m8ff3fd;exact q8ff3fd)|(have:=m8ed409;exact q8ed409)|(have:=m6f91dc;exact q6f91dc)|(have:=m7e7c9f;exact q7e7c9f)):p:=h
theorem q851152 (h:p:=by
 have C:=rall_any (h.agree (AgreeF.of_below hB0)) hB hb;have c0:=hX0.cell 0 0 rfl rfl;have c1:=hX0.cell 0 1 rfl rfl;have c2:=hX0.cell 0 2 rfl rfl;have HB0:=Hd hB0;show Calls _ _ #[.agg #[.int .i64 t.page,.bool t.isLeaf,.slice xa xn xc]] _ _;generalize t.page=tp at *;generalize t.isLeaf=tl at *;clear h hB hb hB0 hX0;go_enter Tryz.func130,Tryz.ntmps130;go_wp2_with fail;refine C.mono ?_;rintro e w1 ⟨rfl,hb1⟩;have HB1:=Hd (HB0.out.trans (hb1.mono HB0.out.size));have S:=sorted_any (w:=w1) (a:=none) (n:=0) (cap:=0) (l:=[]) ⟨rfl,by simp,by unfold maxLen;omega,fun _=>rfl,.inl rfl⟩ Rises.nil (by omega);clear C hb1;go_wp2_with fail;refine S.mono ?_;rintro e w2 ⟨v,rfl,ho,hb2⟩;obtain⟨a,c,rfl,hrow⟩:=Row.of_own (l:=[]) ho;have HB2:=Hd (HB1.out.trans (hb2.mono HB1.out.size));have HROW:=Hd hrow;clear S hb2 ho hrow;go_wp2_with fail;go_ret;exact⟨a,c,rfl,HROW.out,HB2.out⟩):p:=h
theorem q6d5491 (h:p:=by
 obtain⟨i0,hi0,hz0,hz1,hz2⟩:=info_parts infoI;have HSB:=Hd (show wb.heap.size=w.heap.size+1 by rw[←hwb];simp);have hmc:=hat.2.1;have hcm:=hat.2.2.1;unfold maxLen at hcm;obtain⟨v1,w1,hr1,ho1,hg1,hv1⟩:=run_append_row (P:=Tryz.prog) (w:=wb) wb.heap.size 35 3 i0 _ 8 Tryz.underlying35 hi0 hz0 hz1 hz2 rfl (own_nil wb _ 1 _) (hat.below (Nat.le_refl _) hB0) (by unfold maxLen;omega) (by omega) (Nat.le_refl _);simp only[List.nil_append,Nat.zero_add] at ho1;obtain⟨a1,c1',rfl,_⟩:=own_slice ho1;have hb1:Below w.heap.size w w1:=hB0.grown hg1 hB0.size (fun k hk=>by cases hk);have hx1:=hX0.grown hg1 (by intro q hq e;cases e);have e0:=hx1.cell 0 0 rfl rfl;have e1:=hx1.cell 0 1 rfl rfl;have e2:=hx1.cell 0 2 rfl rfl;have C:=rpages_any (h.agree (AgreeF.of_below hb1)) hB hb;have H:=Hd h;have HX1:=Hd hx1;have HB1:=Hd hb1;have HO1:=Hd ho1;have HI:=Hd (show Tryz.prog.info? 3=some i0∧i0.zero=some (.int .i64 0)∧i0.size=1∧i0.bytes=8 from⟨hi0,hz0,hz1,hz2⟩);have HR:=Hd hr;have HP:=Hd hp;have HBR:=Hd hB;have HBD:=Hd hb;have HC:=Hd hc;have HF:=Hd hf;have HLM:=Hd (show at_.length=m from hat.1);show Calls _ _ #[.agg #[.int .i64 t.page,.bool t.isLeaf,.slice xa xn xc],.slice a m cap] _ _;obtain⟨tp,htp⟩:∃x,t.page=x:=⟨_,rfl⟩
 obtain⟨tl,htl⟩:∃x,t.isLeaf=x:=⟨_,rfl⟩
 simp only[htp,htl] at *;clear h hB hb hc hr hp hf hB0 hX0 ho1 hg1 hv1 hb1 hx1 hat hi0 hz0 hz1 hz2 htp htl;go_enter Tryz.func90,Tryz.ntmps90;go_upto_region 3 with(at_builtin;refine wpList_append_run rfl _ _ _ _ rfl rfl rfl hr1 ?_)
 go_wp2_with fail;refine C.mono ?_;rintro e w2 ⟨a2,c2',rfl,hrow2,hb2⟩;have hb2w:=HB1.out.trans (hb2.mono HB1.out.size);obtain⟨hi0,hz0,hz1,hz2⟩:=HI.out;have hsb:=HSB.out;have hb1s:=HB1.out.size;have hbs2:wb.heap.size≤w2.heap.size:=by have:=hb2.size;have:=HX1.out.lt 0 rfl;have h8:w.heap.size<w1.heap.size:=this;omega
 obtain⟨v3,w3,hr3,ho3,hg3,hv3⟩:=run_append_row (P:=Tryz.prog) (w:=w2) wb.heap.size 35 3 i0 _ 8 Tryz.underlying35 hi0 hz0 hz1 hz2 rfl (own_held HO1.out hb2) hrow2 (by unfold maxLen;omega) (by omega) hbs2;simp only[Nat.add_zero,List.map_nil,List.append_nil] at ho3;obtain⟨a3,c3,rfl,_⟩:=own_slice ho3;have hge1:∀k,(Value.slice a1 m c1').ownBlock=some k→w.heap.size+1≤k:=fun k hk=>by have:=own_ge HO1.out k hk;omega
 have hb3:Below w.heap.size w w3:=hb2w.grown hg3 hb2w.size (fun k hk=>by have:=hge1 k hk;omega);have hx3:=(HX1.out.step hb2).grown hg3 (by intro q hq e;simp at hq;subst hq;have h8:w.heap.size+1≤w.heap.size:=hge1 _ e;omega);obtain⟨a',c',e',hrow3⟩:=Row.of_own ho3;cases e';have S:=sorted_any hrow3 HR.out (by omega);have HB3:=Hd hb3;have HX3:=Hd hx3;clear hi0 hz0 hz1 hz2 ho3 hg3 hv3 hb3 hx3 hrow3 hb2 hrow2 hb2w C hbs2 hge1 hsb;go_upto_region 4 with(at_builtin;refine wpList_append_run rfl _ _ _ _ rfl rfl rfl hr3 ?_)
 go_wp2_with fail;refine S.mono ?_;rintro e w4 ⟨v4,rfl,ho4,hb4⟩;obtain⟨a4,c4,rfl,hrow4⟩:=Row.of_own ho4;have HB4:=Hd (HB3.out.trans (hb4.mono HB3.out.size));have HX4:=Hd (HX3.out.step hb4);have HROW4:=Hd hrow4;have hc4:=hrow4.2.1;have hc4m:=hrow4.2.2.1;unfold maxLen at hc4m;clear S ho4 hb4 hrow4;go_wp2_with fail
 go_loopw [7] (fun s7 wx=>∃i:Nat,i≤m∧s7=.int .i64 i∧∃q,wx=w4.drewN q) (fun s _=>m-(intOf s).toNat)
 case atStart=>exact⟨0,Nat.zero_le _,rfl,0,rfl⟩
 case round=>
  obtain⟨i,hi,rfl,q,rfl⟩:=hrel;have iw2:IntKind.i64.wrap ((i:Int)+1)=(i:Int)+1:=by simp[IntKind.wrap,IntKind.signed,IntKind.bits];omega
  by_cases hlt:i<m
  ·obtain⟨b,off,rfl,hbl,hcc⟩:=HROW4.out.2.2.2.2.resolve_left (by omega)
   obtain⟨x,hx⟩:∃x,at_[i]? = some x:=⟨at_[i]'(by have:=HLM.out;omega),by simp⟩
   have k0:=hcc i hlt;rw[hx] at k0;have k0:w4.cell? ⟨b,off+i,none⟩=some (.int .i64 x):=k0;have hpx:=HP.out x (List.mem_of_getElem? hx);have d1:decide (x<2)=false:=decide_eq_false (by omega);have d2:decide (999<x)=false:=decide_eq_false (by omega);have q1:decide ((i:Int)<(m:Int))=true:=decide_eq_true (by omega);have q2:decide (i<m)=true:=decide_eq_true hlt
   by_cases hi0:i=0
   ·subst hi0
    have q3:decide ((0:Int)<((0:Nat):Int))=false:=by decide
    rw[Nat.add_zero] at k0;have q5:decide ((0:Int)<(m:Int))=true:=decide_eq_true (by omega);have q6:decide (0<m)=true:=decide_eq_true hlt;clear hcc hx;go_wp2_with fail
    go_quiet (fail)
    go_wp2
    go_roundw
    case rel=>exact⟨1,by omega,rfl,q+nq,rfl⟩
    case measure=>simp[intOf];omega
   ·obtain⟨y,hy⟩:∃y,at_[i-1]? = some y:=⟨at_[i-1]'(by have:=HLM.out;omega),by simp⟩
    have k1:=hcc (i-1) (by omega);rw[hy] at k1;have k1:w4.cell? ⟨b,off+(i-1),none⟩=some (.int .i64 y):=k1;have hyx:=HR.out (i-1) i y x (by omega) hy hx;have d3:(x == y)=false:=by simp;omega
    have q3:decide ((0:Int)<(i:Int))=true:=decide_eq_true (by omega);have q3':decide (0<i)=true:=decide_eq_true (by omega);have iw3:IntKind.i64.wrap ((i:Int)-1)=(i:Int)-1:=by simp[IntKind.wrap,IntKind.signed,IntKind.bits];omega
    have t1:((i:Int)-1).toNat=i-1:=by omega
    have t2:decide ((0:Int)≤(i:Int)-1)=true:=decide_eq_true (by omega);have t3:decide ((i:Int)-1<(m:Int))=true:=decide_eq_true (by omega);have t4:(0:Int)≤(i:Int)-1:=by omega
    have t5:(i:Int)-1<(m:Int):=by omega
    clear hcc hx hy;go_wp2_with fail
    go_quiet (fail)
    go_wp2
    go_roundw
    case rel=>exact⟨i+1,by omega,by go_num,q+nq,rfl⟩
    case measure=>simp[intOf];omega
  ·have q1:decide ((i:Int)<(m:Int))=false:=decide_eq_false (by omega)
   have q2:decide (i<m)=false:=decide_eq_false hlt;have hbq:Below w4.heap.size w4 (w4.drewN q):=below_drewN (Below.refl _ _) q;have hBq:=HB4.out.trans (hbq.mono HB4.out.size);have hXq:=HX4.out.step hbq;generalize w4.drewN q=W at *;have c0:=hXq.cell 0 0 rfl rfl;have c1:=hXq.cell 0 1 rfl rfl;have c2:=hXq.cell 0 2 rfl rfl;have C1:=rcheck_any (H.out.agree (AgreeF.of_below hBq)) HBD.out hn;rw[HC.out] at C1;have HBq:=Hd hBq;have HXq:=Hd hXq;clear hBq hXq hbq;go_wp2_with fail;refine C1.mono ?_;rintro e w5 ⟨rfl,hb5⟩;have hB5:=HBq.out.trans (hb5.mono HBq.out.size);have hX5:=HXq.out.step hb5;have e0:=hX5.cell 0 0 rfl rfl;have e1:=hX5.cell 0 1 rfl rfl;have e2:=hX5.cell 0 2 rfl rfl;have C2:=rfresh_any (H.out.agree (AgreeF.of_below hB5)) HBR.out HBD.out (by have:=HF.out;omega);have q5:decide (((freshN n t:Nat):Int)≤(m:Int))=true:=decide_eq_true (by have:=HF.out;omega);have q6:decide (freshN n t≤m)=true:=decide_eq_true HF.out;have HB5:=Hd hB5;clear hB5 hX5 hb5 C1;go_wp2_with fail;refine C2.mono ?_;rintro e w6 ⟨rfl,hb6⟩;have HB6:=Hd (HB5.out.trans (hb6.mono HB5.out.size));clear hb6 C2;go_wp2_with fail;go_ret;exact⟨rfl,HB6.out⟩):p:=h
theorem q58f2a0 (h:p:=by
 obtain⟨xa,xn,xc,rfl⟩:=RNodeOn.open_pos h;obtain⟨wb,hwb⟩:∃x,w.alloc (.cells #[.int .i64 t.page,.bool t.isLeaf,.slice xa xn xc] 27)=x:=⟨_,rfl⟩
 have hB0:Below w.heap.size w wb:=by rw[←hwb];exact Below.al (Below.refl _ _)
 have hX0:Boxes wb [(w.heap.size,[.int .i64 t.page,.bool t.isLeaf,.slice xa xn xc])]:=by rw[←hwb];exact(Boxes.nil w).alloc #[.int .i64 t.page,.bool t.isLeaf,.slice xa xn xc] 27 rfl
 first|(have:=m851152;exact q851152)|(have:=m6d5491;exact q6d5491)):p:=h
theorem q648619 (h:p:=by
 rw[List.map_append,List.pairwise_append];refine⟨hp,hq,fun x hx y hy=>?_⟩;obtain⟨c,hc,rfl⟩:=List.mem_map.1 hx;obtain⟨d,hd,rfl⟩:=List.mem_map.1 hy;exact klt_le ((hl c hc).2.2.1.resolve_left hk.1) (hm d hd).2.1):p:=h
theorem qf4a7ef (h:p:=by
 have HR:Hid (R=none):=Hd (by rw[←HDK.out];exact depK_none HC1.out (by rw[HC2.out,HCK.out];exact HD.out));have hdi:depI none = -1:=rfl;rw[hdi];clear hdi;exact q42d8b3):p:=h
theorem qf9757a (h:p:=by
 have f1:=hx.cell 0 1 rfl rfl;have f2:=hx.cell 0 2 rfl rfl;have hxc:=hx.alloc #[.string (strOf k),.string (strOf []),.slice pa 0 pc,.slice (some ⟨bk,okk,none⟩) 1 kc] 145 (b:=wr.heap.size) rfl;have hbc:Below wr.heap.size wr (wr.alloc (.cells #[.string (strOf k),.string (strOf []),.slice pa 0 pc,.slice (some ⟨bk,okk,none⟩) 1 kc] 145)):=Below.al (Below.refl _ _);obtain⟨wc,hwc⟩:∃x,wr.alloc (.cells #[.string (strOf k),.string (strOf []),.slice pa 0 pc,.slice (some ⟨bk,okk,none⟩) 1 kc] 145)=x:=⟨_,rfl⟩
 rw[hwc] at hxc hbc;have HB:=Hd (below_via hb hbc);have HX:=Hd (hxc);have hwx:=hx.lt 0 rfl;have u1:=hxc.cell 1 1 rfl rfl;have u2:=hxc.cell 1 2 rfl rfl;have m0:=hxc.cell 0 0 rfl rfl;have m1:=hxc.cell 0 1 rfl rfl;have m2:=hxc.cell 0 2 rfl rfl;have m3:=hxc.cell 0 3 rfl rfl;replace e0:=(hbc.cell (p:=⟨bk,okk,none⟩) hbk9).trans e0;replace e1:=(hbc.cell (p:=⟨bk,okk+1,none⟩) hbk9).trans e1;replace e2:=(hbc.cell (p:=⟨bk,okk+2,none⟩) hbk9).trans e2;have d0:decide ((i:Int)<(m:Int))=true:=by simp;omega
 have d0':decide (i<m)=true:=by simp;omega
 clear hxc c0 c1 c2 c3 hg q1;obtain⟨F,hF⟩:∃z:Bool,(i == 0)=z:=⟨_,rfl⟩
 have HF:=Hd hF;go_upto_region 9 with(fail)
 go_cut [13] (fun s wq=>s=.bool F∧wc=wq)
 case first=>
  by_cases h0:i=0
  ·obtain rfl:true=F:=by rw[←hF,h0];rfl
   have d5:((i:Int) == 0)=true:=by rw[h0];rfl
   clear h0 hF;exact qb98405
  ·obtain rfl:false=F:=by rw[←hF];exact(beq_eq_false_iff_ne.2 h0).symm
   have d5:((i:Int) == 0)=false:=beq_eq_false_iff_ne.2 (by omega);clear h0 hF;exact qb98405
 case rest=>
 obtain⟨rfl,rfl⟩:=hcut;clear hF;go_upto_region 10 with(fail)
 go_cut [143] (fun s wq=>s=.bool BAD∧Below wc.heap.size wc wq)
 case first=>
  have m560a6a:=trivial;exact q91f841
 case rest=>
 rename_i wd;obtain⟨rfl,hbd⟩:=hcut;replace HB:=Hd (below_via HB.out hbd);replace HX:=Hd (HX.out.step hbd);clear u1 u2 m0 m1 m2 m3 hwc v0 v1 v2 v3;have u1:=HX.out.cell 1 1 rfl rfl;have u2:=HX.out.cell 1 2 rfl rfl;have m0:=HX.out.cell 0 0 rfl rfl;have m3:=HX.out.cell 0 3 rfl rfl;have hbk8:=Nat.lt_of_lt_of_le hbk9 hbc.size;replace e0:=(hbd.cell (p:=⟨bk,okk,none⟩) hbk8).trans e0;replace e1:=(hbd.cell (p:=⟨bk,okk+1,none⟩) hbk8).trans e1;replace e2:=(hbd.cell (p:=⟨bk,okk+2,none⟩) hbk8).trans e2;clear hbk8 hbk9 hbk;clear hbc hbd;cases BAD with
 | true=>
  have HR:Hid (R=none):=Hd (by
   have h9:=HBAD.out;rw[HD.out,HFT.out];cases hfa:fitAt lo hi false (keysOf l) i with
   | false=>rw[fitTo_bad (i:=i) (by omega) hfa];rfl
   | true=>
    rw[hfa] at h9;rw[HVN.out] at h9;cases h9)
  go_wp2_with fail;go_ret;exact⟨by rw[HR.out];rfl,HB.out⟩
 | false=>
 have HT2:Hid (fitTo lo hi false (keysOf l) (i+1)=true):=Hd (by
  have h9:=HBAD.out;rw[fitTo_succ,HA.out,Bool.true_and];simp at h9;exact h9.1)
 obtain⟨KL,hKL⟩:∃z,(if i=0 then lo else k)=z:=⟨_,rfl⟩
 obtain⟨HI,hHI⟩:∃z,nextH hi (l.drop (i+1))=z:=⟨_,rfl⟩
 have hKL9:KL.length≤1000:=by rw[←hKL];split<;>assumption
 have HKL9:=Hd hKL;have HHI9:=Hd hHI;clear hKL hHI hb hx
 go_upto_if 148 with(fail)
 go_cut [14] (fun s wq=>s=.string (strOf KL)∧wc=wq)
 case first=>
  by_cases h0:i=0
  ·obtain rfl:true=F:=by rw[←HF.out,h0];rfl
   obtain rfl:lo=KL:=by rw[←HKL9.out,if_pos h0]
   clear h0;exact qb98405
  ·obtain rfl:false=F:=by rw[←HF.out];exact(beq_eq_false_iff_ne.2 h0).symm
   obtain rfl:k=KL:=by rw[←HKL9.out,if_neg h0]
   clear h0;exact qb98405
 case rest=>
 obtain⟨rfl,rfl⟩:=hcut
 go_upto_if 156 with(fail)
 go_cut [15] (fun s wq=>s=.string (strOf HI)∧wc=wq∧HI.length≤1000)
 case first=>
  by_cases hla:m≤i+1
  ·have d3:decide ((i:Int)+1<(m:Int))=false:=by simp;omega
   have d3':decide (i+1<m)=false:=by simp;omega
   obtain rfl:hi=HI:=by rw[←HHI9.out];exact(nextH_last (by have:=HL.out;omega)).symm
   have HHI:=Hd hhi;clear hla;simp only[d3];go_wp2_with fail;go_meet;exact⟨rfl,rfl,HHI.out⟩
  ·have d3:decide ((i:Int)+1<(m:Int))=true:=by simp;omega
   have d3':decide (i+1<m)=true:=by simp;omega
   obtain⟨b8,off8,y8,_,_,_,_,_,_,e8,hbb8,hy8,_,_,_,_,_,c08,_,_,_⟩:=RNodeOn.cell HV.out (show i+1<m by omega);cases e8;rw[cellsR_node] at hy8;obtain⟨x8,hx81,hx82⟩:=Option.map_eq_some_iff.1 hy8;subst hx82;obtain⟨k2,y82⟩:=x8;dsimp only at c08;have hk2:=(HG.out _ (List.mem_of_getElem? hx81)).1;dsimp only at hk2;have g8:=(HB.out.cell (p:=⟨b,off+(i+1)*4,none⟩) hbb8).trans c08;obtain rfl:k2=HI:=by rw[←HHI9.out];exact(nextH_mid (by simp[keysOf,hx81]) (by have:=HL.out;omega)).symm
   have HHI:Hid (k2.length≤1000):=Hd (by omega);have hla2:i+1<m:=by omega
   have hla3:(i:Int)+1<(m:Int):=by omega
   have hla4:(0:Int)≤(i:Int)+1:=by omega
   clear hla c08 hx81 hy8 hbb8;simp only[d3];go_wp2_with fail;go_meet;exact⟨rfl,rfl,HHI.out⟩
 case rest=>
 obtain⟨rfl,rfl,hHI9⟩:=hcut;obtain⟨D,hD⟩:∃D,depthT (n+1) kid KL HI false=D:=⟨_,rfl⟩
 have CD:=IH (HKID.out.below HB.out) HKB.out KL HI hKL9 hHI9;rw[hD] at CD;have HDD:Hid (depthT (n+1) kid (if i=0 then lo else k) (nextH hi (l.drop (i+1))) false=D):=Hd (by rw[HKL9.out,HHI9.out];exact hD);clear hD;go_wp2_with fail;refine CD.mono ?_;rintro e w9 ⟨rfl,hb9⟩;have HBQ:=Hd (below_via HB.out hb9);have HXQ:=Hd (HX.out.step hb9);clear hb9 u1 u2 m0 m3 e0 e1 e2 CD;cases D with
 | none=>
  have HR:Hid (R=none):=Hd (by rw[HD.out,show R2=none by rw[←HDK.out];exact depK_none HC1.out (by exact HDD.out)];simp);have hdi:depI none = -1:=rfl;rw[hdi];clear hdi;exact q42d8b3
 | some d=>
  have hdi:depI (some d)=(d:Int):=rfl;rw[hdi];clear hdi;have hd9:d+1≤1000:=Nat.le_trans (depthT_lt HDD.out) hn;have dz:decide ((d:Int)<0)=false:=decide_eq_false (by omega)
  by_cases hbf:i≠0∧d+1≠far
  ·have d5:decide ((0:Int)<(i:Int))=true:=by simp;omega
   have d5':decide (0<i)=true:=by simp;omega
   have dy:((d:Int)+1 != (far:Int))=true:=by have:=hbf.2;simp;omega
   have HR:Hid (R=none):=Hd (by rw[HD.out,show R2=none by rw[←HDK.out];exact depK_far HC1.out (by exact HDD.out) hbf];simp);clear hbf;exact q42d8b3
  ·have HR:Hid (depK (fun t lo hi=>depthT (n+1) t lo hi false) lo hi (i+1) (d+1) (l.drop (i+1))=R2):=Hd (by rw[←HDK.out];exact(depK_go HC1.out (by exact HDD.out) hbf).symm)
   by_cases h0:i=0
   ·have d5:decide ((0:Int)<(i:Int))=false:=by simp;omega
    have d5':decide (0<i)=false:=by simp;omega
    exact qe2b1f7
   ·have d5:decide ((0:Int)<(i:Int))=true:=by simp;omega
    have d5':decide (0<i)=true:=by simp;omega
    have dy:((d:Int)+1 != (far:Int))=false:=by simp;omega
    exact qe2b1f7):p:=h
theorem q74d292 (h:p:=by
 have f1:=hx.cell 0 1 rfl rfl;have f2:=hx.cell 0 2 rfl rfl;have hxc:=hx.alloc #[.string (strOf k),.string (strOf yv.data),.slice pa pn pc,.slice ka 0 kc] 145 (b:=wr.heap.size) rfl;have hbc:Below wr.heap.size wr (wr.alloc (.cells #[.string (strOf k),.string (strOf yv.data),.slice pa pn pc,.slice ka 0 kc] 145)):=Below.al (Below.refl _ _);obtain⟨wc,hwc⟩:∃x,wr.alloc (.cells #[.string (strOf k),.string (strOf yv.data),.slice pa pn pc,.slice ka 0 kc] 145)=x:=⟨_,rfl⟩
 rw[hwc] at hxc hbc;have HB:=Hd (below_via hb hbc);have HX:=Hd (hxc);have hwx:=hx.lt 0 rfl;have u1:=hxc.cell 1 1 rfl rfl;have u2:=hxc.cell 1 2 rfl rfl;have m0:=hxc.cell 0 0 rfl rfl;have m1:=hxc.cell 0 1 rfl rfl;have m2:=hxc.cell 0 2 rfl rfl;have m3:=hxc.cell 0 3 rfl rfl;have d0:decide ((i:Int)<(m:Int))=true:=by simp;omega
 have d0':decide (i<m)=true:=by simp;omega
 clear hxc c0 c1 c2 c3 hg q1;go_upto_region 9 with(fail)
 go_cut [13] (fun s wq=>s=.bool false∧wc=wq)
 case first=>
  by_cases h0:i=0
  ·have d5:((i:Int) == 0)=true:=by rw[h0];rfl
   clear h0;exact qb98405
  ·have d5:((i:Int) == 0)=false:=beq_eq_false_iff_ne.2 (by omega)
   clear h0;exact qb98405
 case rest=>
 obtain⟨rfl,rfl⟩:=hcut;go_upto_region 10 with(fail)
 go_cut [143] (fun s wq=>s=.bool BAD∧Below wc.heap.size wc wq)
 case first=>
  have mcb36f0:=trivial;exact q91f841
 case rest=>
 rename_i wd;obtain⟨rfl,hbd⟩:=hcut;replace HB:=Hd (below_via HB.out hbd);replace HX:=Hd (HX.out.step hbd);clear u1 u2 m0 m1 m2 m3 hwc v0 v1 v2 v3;have u1:=HX.out.cell 1 1 rfl rfl;have u2:=HX.out.cell 1 2 rfl rfl;have m0:=HX.out.cell 0 0 rfl rfl;have m3:=HX.out.cell 0 3 rfl rfl;clear hbc hbd;cases BAD with
 | true=>
  have HR:Hid (R=none):=Hd (by
   have h9:=HBAD.out;rw[HD.out,HFT.out];cases hfa:fitAt lo hi true (keysOf l) i with
   | false=>rw[fitTo_bad (i:=i) (by omega) hfa];rfl
   | true=>
    rw[hfa] at h9;have hv:valB yv=false:=by simpa using h9.symm
    have h8:(l.all fun c=>valB c.2)=false:=by
     rw[List.all_eq_false];exact⟨_,List.mem_of_getElem? HX1.out,by simp[hv]⟩
    rw[h8,Bool.and_false];rfl)
  go_wp2_with fail;go_ret;exact⟨by rw[HR.out];rfl,HB.out⟩
 | false=>
 have HT2:Hid (fitTo lo hi true (keysOf l) (i+1)=true):=Hd (by
  have h9:=HBAD.out;rw[fitTo_succ,HA.out,Bool.true_and];simp at h9;exact h9.1)
 have HRS2:Hid (∀j c,j<i+1→l[j]? = some c→valB c.2=true):=Hd (fun j c hj hc=>by
  by_cases hj9:j<i
  ·exact HRS.out j c hj9 hc
  ·obtain rfl:j=i:=by omega
   have h9:=HBAD.out;rw[HX1.out] at hc;cases hc;simp at h9;exact h9.2)
 go_wp2_with fail;go_roundw
 case rel=>exact⟨i+1,0,by omega,by go_num,rfl,rfl,HT2.out,HRS2.out,HB.out,HX.out.sub (fun p hp=>List.mem_cons_of_mem _ hp)⟩
 case measure=>simp[intOf];omega):p:=h
theorem q23815f (h:p:=by
 have hba:Below wr.heap.size wr (wr.alloc (.cells #[.string (strOf yk),.string (strOf yd),.slice pa pn pc,.slice ka kn kc] 145)):=Below.al (Below.refl _ _);have hba2:Below wr.heap.size wr ((wr.alloc (.cells #[.string (strOf yk),.string (strOf yd),.slice pa pn pc,.slice ka kn kc] 145)).alloc (.cells #[.string (strOf yk),.string (strOf yd),.slice qa pn qc,.slice la kn lc] 145)):=Below.al hba;have x2:=(hx.step hba).cell 0 2 rfl rfl;have w0:=((below_via hb hba).cell (p:=⟨b',off'+i*4,none⟩) hbb').trans c0';have w1:=((below_via hb hba).cell (p:=⟨b',off'+i*4+1,none⟩) hbb').trans c1';have w2:=((below_via hb hba).cell (p:=⟨b',off'+i*4+2,none⟩) hbb').trans c2';have w3:=((below_via hb hba).cell (p:=⟨b',off'+i*4+3,none⟩) hbb').trans c3';have hz:Boxes ((wr.alloc (.cells #[.string (strOf yk),.string (strOf yd),.slice pa pn pc,.slice ka kn kc] 145)).alloc (.cells #[.string (strOf yk),.string (strOf yd),.slice qa pn qc,.slice la kn lc] 145)) [(wr.heap.size+1,[.string (strOf yk),.string (strOf yd),.slice qa pn qc,.slice la kn lc]),(wr.heap.size,[.string (strOf yk),.string (strOf yd),.slice pa pn pc,.slice ka kn kc])]:=((Boxes.nil wr).alloc #[.string (strOf yk),.string (strOf yd),.slice pa pn pc,.slice ka kn kc] 145 (b:=wr.heap.size) rfl).alloc #[.string (strOf yk),.string (strOf yd),.slice qa pn qc,.slice la kn lc] 145 (b:=wr.heap.size+1) (by simp);have q1:((strOf yk).toList == (strOf yk).toList)=true:=by simp
 have q2:((strOf yd).toList == (strOf yd).toList)=true:=by simp
 have q3:((pn:Int) != (pn:Int))=false:=by simp
 have q4:((kn:Int) != (kn:Int))=false:=by simp
 have t0:=hz.cell 0 0 rfl rfl;have t1:=hz.cell 0 1 rfl rfl;have t2:=hz.cell 0 2 rfl rfl;have t3:=hz.cell 0 3 rfl rfl;have u0:=hz.cell 1 0 rfl rfl;have u1:=hz.cell 1 1 rfl rfl;have u2:=hz.cell 1 2 rfl rfl;have u3:=hz.cell 1 3 rfl rfl;have HZ:=Hd hz;have HX:=Hd (hx.step hba2);have HB:=Hd (below_via hb hba2);have HR:=Hd hrow;have HR':=Hd hrow';have HK:=Hd hkid;have HK':=Hd hkid';have HS1:=Hd s1;have hsz2:wr.heap.size+2=((wr.alloc (.cells #[.string (strOf yk),.string (strOf yd),.slice pa pn pc,.slice ka kn kc] 145)).alloc (.cells #[.string (strOf yk),.string (strOf yd),.slice qa pn qc,.slice la kn lc] 145)).heap.size:=by simp
 clear hx hb c0 c1 c2 c3 c0' c1' c2' c3' hrow hrow' hkid hkid' hy r1 r4 s1 s4 hz hba hba2 hbb hbb' hsz2;go_upto_region 10 with(fail)
 clear v0 v1 v2 v3 w0 w1 w2 w3 x2;obtain⟨WA,hWA⟩:∃x,x=((wr.alloc (.cells #[.string (strOf yk),.string (strOf yd),.slice pa pn pc,.slice ka kn kc] 145)).alloc (.cells #[.string (strOf yk),.string (strOf yd),.slice qa pn qc,.slice la kn lc] 145)):=⟨_,rfl⟩
 rw[←hWA] at HZ HX HB ⊢;clear t0 t1 t2 t3 u0 u1 u2 u3 n2 o2;have HBA:=Hd (Below.refl WA.heap.size WA);clear hWA q1 q2 q3 q4;go_wp2_with fail
 go_loopw [8] (fun s8 wy=>∃(k:Nat),k≤pn∧s8=.int .i64 k∧Below WA.heap.size WA wy) (fun s _=>pn-(intOf s).toNat)
 case atStart=>exact⟨0,Nat.zero_le _,rfl,HBA.out⟩
 case round=>
  obtain⟨k,hk,rfl,hby⟩:=hrel;clear HBA;obtain⟨wy,rfl⟩:∃x:World,x=wr:=⟨_,rfl⟩
  have hzy:=HZ.out.step hby
  have z2:=hzy.cell 1 2 rfl rfl;have y2:=hzy.cell 0 2 rfl rfl
  by_cases hkl:k<pn
  ·obtain⟨bp,op,rfl,hbp,hcp⟩:=HR.out.cellS hkl
   obtain⟨bq,oq,rfl,hbq,hcq⟩:=HR'.out.cellS hkl;have z5:=((below_via HB.out hby).cell (p:=⟨bp,op+k,none⟩) hbp).trans hcp;have y5:=((below_via HB.out hby).cell (p:=⟨bq,oq+k,none⟩) hbq).trans hcq;generalize yp[k]?.getD 0=vk at z5 y5;have hvk:(vk != vk)=false:=by simp
   clear hcp hcq hzy hbp hbq;go_upto_region 13 with(fail)
   go_quiet (fail)
   go_wp2
   go_roundw
   case rel=>exact⟨k+1,hkl,by go_num,below_drewN hby _⟩
   case measure=>simp[intOf];omega
  ·obtain rfl:k=pn:=by omega
   cases yo with
   | none=>
    obtain rfl:kn=0:=HS1.out.symm;have z3:=hzy.cell 1 3 rfl rfl;have HX5:=Hd (HX.out.step hby);have HB5:=Hd (below_via HB.out hby);clear hzy hby
    go_upto_region 15 with(fail)
    go_quiet (fail)
    go_wp2
    go_roundw
    case rel=>exact⟨i+1,hlt,by go_num,HX5.out.step (below_drewN (Below.refl _ _) _),below_drewN HB5.out _⟩
    case measure=>simp[intOf];omega
   | some kid=>
    obtain rfl:kn=1:=HS1.out.symm;obtain⟨bk,ok,kd,ks,rfl,hbk,hyk,_,hon,hck⟩:=TabR.at HK.out (show 0<1 by omega);obtain⟨bj,oj,kd',js,rfl,hbj,hyj,_,hon',hcj⟩:=TabR.at HK'.out (show 0<1 by omega);cases hyk;cases hyj;have hbw:=below_via HB.out hby
    cases n with
    | zero=>exact hon.elim
    | succ n=>
    have CS:∀W,Below wy.heap.size wy W→Calls Tryz.prog 17 #[.agg ks.toArray,.agg js.toArray] W (SameTo W):=fun W hW=>IH (hon.below (below_via hbw hW)) (hon'.below (below_via hbw hW))
    obtain⟨ak,ck,rfl,_,_⟩:=hon.at;obtain⟨aj,cj,rfl,_,_⟩:=hon'.at;generalize cntT kid=mk at *;generalize kid.page=pk at *;generalize kid.isLeaf=lk at *;have c0:∀W,Below wy.heap.size wy W→W.cell? ⟨bk,ok,none⟩=some (.int .i64 pk):=fun W hW=>((below_via hbw hW).cell (p:=⟨bk,ok,none⟩) hbk).trans (by simpa using hck 0 _ rfl)
    have c1:∀W,Below wy.heap.size wy W→W.cell? ⟨bk,ok+1,none⟩=some (.bool lk):=fun W hW=>((below_via hbw hW).cell (p:=⟨bk,ok+1,none⟩) hbk).trans (by simpa using hck 1 _ rfl)
    have c2:∀W,Below wy.heap.size wy W→W.cell? ⟨bk,ok+2,none⟩=some (.slice ak mk ck):=fun W hW=>((below_via hbw hW).cell (p:=⟨bk,ok+2,none⟩) hbk).trans (by simpa using hck 2 _ rfl)
    have j0:∀W,Below wy.heap.size wy W→W.cell? ⟨bj,oj,none⟩=some (.int .i64 pk):=fun W hW=>((below_via hbw hW).cell (p:=⟨bj,oj,none⟩) hbj).trans (by simpa using hcj 0 _ rfl)
    have j1:∀W,Below wy.heap.size wy W→W.cell? ⟨bj,oj+1,none⟩=some (.bool lk):=fun W hW=>((below_via hbw hW).cell (p:=⟨bj,oj+1,none⟩) hbj).trans (by simpa using hcj 1 _ rfl)
    have j2:∀W,Below wy.heap.size wy W→W.cell? ⟨bj,oj+2,none⟩=some (.slice aj mk cj):=fun W hW=>((below_via hbw hW).cell (p:=⟨bj,oj+2,none⟩) hbj).trans (by simpa using hcj 2 _ rfl)
    have z3:∀W,Below wy.heap.size wy W→W.cell? ⟨wr.heap.size,3,none⟩=some (.slice (some ⟨bk,ok,none⟩) 1 kc):=fun W hW=>(hzy.step hW).cell 1 3 rfl rfl
    have y3:∀W,Below wy.heap.size wy W→W.cell? ⟨wr.heap.size+1,3,none⟩=some (.slice (some ⟨bj,oj,none⟩) 1 lc):=fun W hW=>(hzy.step hW).cell 0 3 rfl rfl
    have hC0:Below wy.heap.size wy wy.drew:=(Below.refl _ _).drew;have HX5:=Hd (HX.out.step hby);have HB5:=Hd hbw;clear hzy hby hbw hck hcj hon hon';go_upto_region 15 with(fail)
    go_region_held3 (fun W=>Below wy.heap.size wy W) (first|with_reducible assumption|(repeat (with_reducible first|assumption|exact Below.refl _ _|apply Below.al|apply Below.dr))) (first|(go_at_call 17;(with_reducible refine(CS _ ?_).mono ?_);(focus (repeat (with_reducible first|assumption|exact Below.refl _ _|apply Below.al|apply Below.dr)));rintro e w12 ⟨rfl,hb12⟩;have hB12:Below wy.heap.size wy w12:=below_via (by(repeat (with_reducible first|assumption|exact Below.refl _ _|apply Below.al|apply Below.dr))) hb12))
    go_wp2_with fail;go_roundw
    case rel=>exact⟨i+1,hlt,by go_num,HX5.out.step hB12,below_via HB5.out hB12⟩
    case measure=>simp[intOf];omega):p:=h
theorem q7273b9 (h:p:=by
 have v0:=(hb.cell (p:=⟨b,off+i*4,none⟩) hbb).trans c0;have v1:=(hb.cell (p:=⟨b,off+i*4+1,none⟩) hbb).trans c1;have v2:=(hb.cell (p:=⟨b,off+i*4+2,none⟩) hbb).trans c2;have v3:=(hb.cell (p:=⟨b,off+i*4+3,none⟩) hbb).trans c3
 first|(have:=mf9757a;exact qf9757a)|(have:=m74d292;exact q74d292)|(have:=m23815f;exact q23815f)):p:=h
theorem q341848 (h:p:=by
 refine bodyPost_ret (v:=.tuple #[.agg #[.bool false,.slice none 0 0],.int .i64 11]) (by simp[results,Tryz.results101,go_sem,g2,g3]) rfl (rgetpost_none rfl ?_);exact((hbb5.setCell (Nat.le_refl _) _).setCell (Nat.le_refl _) _)):p:=h
theorem qa27b0d (h:p:=by
 refine rdy 12 (fun K hK=>?_)
 (rw[if_pos (by rfl)];go_wp2_with (fail);refine C.mono ?_;rintro e wx ⟨rfl,hdx,hbx⟩;have hBx12:Below w2.heap.size w2 wx:=hBx11.trans (hbx.mono (Nat.le_succ _)))
 refine bkw hK (by(with_reducible first|assumption|exact hBx11|exact hBx12)) (fun hHeld=>?_);clear hK K;refine wpAnyH_done (by kernel_rfl) ?_ _;refine NoPanic.normal ?_;have HDX:=Hd hdx;have HBX:=Hd hBx12;clear cA cB hdx hBx12 hBx11 hbx hcv C;go_wp2_with fail;go_roundw
 case rel=>exact⟨i+1,_,hlt,by go_num,HDX.out,HWR.out,HBX.out⟩
 case measure=>simp[intOf];omega):p:=h
theorem q4268bf (h:p:=by
 refine rdy 12 (fun K hK=>?_)
 (rw[if_pos (by rfl)];go_wp2_with (fail);refine C.mono ?_;rintro e wx ⟨rfl,hdx,hbx⟩;have hBx12:Below w2.heap.size w2 wx:=hb.trans (hbx.mono (by omega)))
 refine bkw hK (by(with_reducible first|assumption|exact hBx11|exact hBx12)) (fun hHeld=>?_);clear hK K;refine wpAnyH_done (by kernel_rfl) ?_ _;refine NoPanic.normal ?_;have hd2:Both (w2.heap.size+1) wx.drew db (i+1) (writeD d 0 py by9) a8 1 c8 d:=hdx.below (below_drewN (Below.refl _ _) 1);have C2:=both_write hd2 (by omega) (fun x hx=>by have:=HLO.out x hx;omega) 0 py by9;have hb1:Below w2.heap.size w2 wx.drew:=hBx12.drew;clear hdx hbx hBx12 hBx11 C hd2 hcv hb;go_wp2_with fail
 go_region_held3 (fun W=>Below w2.heap.size w2 W) (with_reducible assumption) (first|(go_at_call 14;refine C2.mono ?_;rintro e wy ⟨a9,n9,c9,rfl,hdy,hby⟩;have hBy:Below w2.heap.size w2 wy:=below_then hb1 hby))
 all_goals
  have hn9:n9=1:=by have h2:=hdy.gs.1;rw[write_length] at h2;have h3:=HDL.out;omega
  subst hn9;have HDY:=Hd hdy;have HLY:=Hd (write_loose HLO.out 0 py by9);have HOY:=Hd (HOK.out.write 0 py by9);have HBY:=Hd hBy;clear cA cB hdy hBy hby hb1 C2;exact qd75aca):p:=h
theorem qf5102a (h:p:=by
 refine wp_region_noPanic ?_;refine wp_region_held_drew (S:=(fun W=>Below w2.heap.size w2 W)) (by kernel_rfl) (by exact hB0) (fun hHeld=>?_);refine tks [0,1] ?_;refine tks [2,3] ?_;refine tks [4,5] ?_;refine tks [6,7] ?_;refine tks [8,9,10] ?_;refine rdy 11 (fun K hK=>?_);refine step_convert_run rfl _ _ _ rfl rfl hcv ?_;refine bkw hK (by(with_reducible first|assumption|exact hBx11|exact hBx12)) (fun hHeld=>?_);clear hK K
 first|(have:=ma27b0d;exact qa27b0d)|(have:=m4268bf;exact q4268bf)):p:=h
theorem qe2b1f7 (h:p:=by
 clear h0 hbf;go_wp2_with fail;go_roundw
 case rel=>exact⟨i+1,d+1,by omega,by go_num,by go_num,by omega,HT2.out,HR.out,HBQ.out,HXQ.out.sub (fun p hp=>List.mem_cons_of_mem _ hp)⟩
 case measure=>simp[intOf];omega):p:=h
theorem q564ce6 (h:p:=by
 obtain⟨x7,hx71,hx72⟩:=Option.map_eq_some_iff.1 hy7;subst hx72;have ek:x7.1=kp:=by rw[←hkp,hip];simp[keysOf,hx71]
 rw[←ek];exact((below_via HB.out hW).cell (p:=⟨b,off+ip*4,none⟩) hbb7).trans c07):p:=h
theorem qd70c83 (h:p:=by
 have TN:=fun t W (h:Rt W t s1)=>rNum_any t s1 1 W h (Nat.le_trans hl1 (by decide))
 have hl2:=Nat.le_trans (tNum_len s1 1) hl1;have hk:(tNum s1 1).1<256:=tNum_lt s1 1;generalize (tNum s1 1).1=k1 at *;generalize (tNum s1 1).2=s2 at *;have TR:=fun t W (h:Rt W t s2)=>rRest_any t s2 W h (Nat.le_trans hl2 (by decide))
 generalize (tRest s2).1=r at *;generalize (tRest s2).2=s3 at *;have hk1:((k1:Nat):Int)<256:=by omega
 have q1:((k1:Int) == 1)=false:=by simp;omega
 have HDE:=Hd hde;clear hde hl1 hl2 h1 hk;have m4a6eb3:=trivial;exact q0f0339):p:=h
theorem q514d3d (h:p:=by
 have TN:=fun t W (h:Rt W t s1)=>rNum_any t s1 1 W h (Nat.le_trans hl1 (by decide))
 have hl2:=Nat.le_trans (tNum_len s1 1) hl1;rw[h1] at TN;generalize (tNum s1 1).2=s2 at *;have TN2:=fun t W (h:Rt W t s2)=>rNum_any t s2 2 W h (Nat.le_trans hl2 (by decide))
 have hl3:=Nat.le_trans (tNum_len s2 2) hl2;have hn2:(tNum s2 2).1<65536:=tNum_lt s2 2;generalize (tNum s2 2).1=n2 at *;generalize (tNum s2 2).2=s3 at *;have TN3:=fun t W (h:Rt W t s3)=>rNum_any t s3 2 W h (Nat.le_trans hl3 (by decide))
 have hn3:(tNum s3 2).1<65536:=tNum_lt s3 2;generalize (tNum s3 2).1=n3 at *;generalize (tNum s3 2).2=s4 at *;have TD:=fun t W (h:Rt W t s4)=>rDone_any t s4 W h
 generalize tDone s4=d at *;have hc2:((n2:Nat):Int)<65536:=by omega
 have hc3:((n3:Nat):Int)<65536:=by omega
 have HDE:=Hd hde;clear hde hl1 hl2 hl3 hn2 hn3 h1;have m078f92:=trivial;exact q0f0339):p:=h
theorem qf7109c (h:p:=by
 have TN:=fun t W (h:Rt W t s1)=>rNum_any t s1 2 W h (Nat.le_trans hl1 (by decide))
 have hn2:(tNum s1 2).1<65536:=tNum_lt s1 2;generalize (tNum s1 2).1=n at *;generalize (tNum s1 2).2=s2 at *;have TD:=fun t W (h:Rt W t s2)=>rDone_any t s2 W h
 generalize tDone s2=d at *;have hn3:((n:Nat):Int)<65536:=by omega
 have HDE:=Hd hde;clear hde hl1 hn2;generalize decE false c=o at *;go_enter Tryz.func147,Tryz.ntmps147;go_wp2_with fail;refine(TT _ _ HR).mono ?_;rintro e w3 ⟨rfl,hg3,hr3⟩;have hb3:=below_take hB (by omega) hg3;have BX:=BX.grown hg3 (fun p hp=>by simp at hp;subst hp;simp);go_wp2_with fail;have BX:=BX.alloc #[.string (strOf key),.string ⟨#[]⟩,.bool false,.int .i64 0,.int .i64 0] 226 rfl;have hb3':=below_one w3 (.cells #[.string (strOf key),.string ⟨#[]⟩,.bool false,.int .i64 0,.int .i64 0] 226);have hr3:=hr3.below (Nat.le_refl _) hb3';have hlt3:=hr3.lt;have hz3:=hb3.size;have hlt1:w.heap.size+1<w3.heap.size:=by have:=hg3.size;simp at this;omega
 refine(TN _ _ hr3).mono ?_;rintro e w4 ⟨rfl,hg4,hr4⟩;have hb4:=below_take (below_then hb3 hb3') (by omega) hg4;have BX:=BX.grown hg4 (fun p hp=>by simp at hp;rcases hp with rfl|rfl<;>simp<;>omega);have g4:=BX.cell 0 4 rfl rfl;have f4:=BX.frozen 0 4 rfl;go_wp2_with fail;have BY:=BX.put 4 (.int .i64 (n:Int)) (fun p hp=>by simp at hp;subst hp;simp;omega);have hr5:=hr4.boxed (grown_setCell w4 ⟨w3.heap.size,4,none⟩ (.int .i64 (n:Int))) (show w.heap.size+1≠w3.heap.size by omega);have hb5:=hb4.setCell (p:=⟨w3.heap.size,4,none⟩) (by simp;omega) (.int .i64 (n:Int));generalize w4.setCell ⟨w3.heap.size,4,none⟩ (.int .i64 (n:Int))=w5 at *;clear g4 f4 BX hr4 hb4 hg4 hr3 hb3' hg3 hB HR;have mc914be:=trivial;exact qacec41):p:=h
theorem qea54dc (h:p:=by
 have hl1:(tText ⟨c,0⟩).2.l.length≤1000000:=Nat.le_trans (tText_len ⟨c,0⟩) hl;have TT:=fun t W (h:Rt W t ⟨c,0⟩)=>rText_any t ⟨c,0⟩ W h (Nat.le_trans hl (by decide))
 generalize (tText ⟨c,0⟩).1=key at *;generalize (tText ⟨c,0⟩).2=s1 at *
 first|(have:=md70c83;exact qd70c83)|(have:=m514d3d;exact q514d3d)|(have:=mf7109c;exact qf7109c)):p:=h
theorem q0d4b31 (h:p:=by
 obtain⟨A37,hA37⟩:∃z:Bool,((A27 || X4))=z:=⟨_,rfl⟩
 have mc37f26:=trivial;exact qc3eb6e):p:=h
theorem qb9558d (h:p:=by
 obtain⟨Y4,hY4⟩:∃z:Bool,((NF && X4))=z:=⟨_,rfl⟩
 have HY4:=Hd hY4;obtain⟨A37,hA37⟩:∃z:Bool,((A27 || Y4))=z:=⟨_,rfl⟩
 have m19417b:=trivial;exact qc3eb6e):p:=h
theorem q24baa8 (h:p:=by
 obtain⟨X4,hX4⟩:∃z:Bool,(decide (k<lo))=z:=⟨_,rfl⟩
 have HX4:Hid ((X4=true∧Op.bytesLess (strOf k).toList (strOf lo).toList=true)∨(X4=false∧Op.bytesLess (strOf k).toList (strOf lo).toList=false)):=Hd (by
  rw[←hX4,strOf_toList,strOf_toList,bytes_lessT]
  by_cases h:k<lo
  ·exact .inl ⟨decide_eq_true h,decide_eq_true h⟩
  ·exact .inr ⟨decide_eq_false h,decide_eq_false h⟩)
 first|(have:=m0d4b31;exact q0d4b31)|(have:=mb9558d;exact qb9558d)):p:=h
theorem qb98405 (h:p:=by
 go_wp2_with fail;go_meet;exact⟨rfl,rfl⟩):p:=h
theorem q810b6c (h:p:=by
 rw[show(l.take 4).length=4 by simp[hl],decide_eq_false hs] at hbe;generalize crcOf (l.drop 4)=s at *;have hne:(beBytes s 4 != l.take 4)=true:=by simpa using hbe
 have mdb7c57:=trivial;exact qc46daa):p:=h
theorem q1f9496 (h:p:=by
 rw[show(l.take 4).length=4 by simp[hl],decide_eq_true hs] at hbe;generalize crcOf (l.drop 4)=s at *;have hne:(beBytes s 4 != l.take 4)=false:=by simpa using hbe
 have mbd642f:=trivial;exact qc46daa):p:=h
theorem q8393ed (h:p:=by
 have hsz:(strOf l).size=128:=by rw[strOf_size,hl]
 have hx1:(strOf l).extract 4 128=strOf (l.drop 4):=by rw[strOf_extract,List.take_of_length_le (by simp[hl])]
 have hx2:(strOf l).extract 0 4=strOf (l.take 4):=by rw[strOf_extract];rfl
 have hc:=refOf_any (l.drop 4) w.drew (by simp[hl]);have hx:=crcOn_lt 0 (l.drop 4);change crcOf _<_ at hx;have hbe:=be_iff (l.take 4) (crcOf (l.drop 4)) (by simp[hl];omega)
 first|(have:=m810b6c;exact q810b6c)|(have:=m1f9496;exact q1f9496)):p:=h
theorem q21aee6 (h:p:=by
 rintro e w' ⟨rfl,rfl⟩
 go_wp2
 go_ret2
 exact⟨.inr ⟨by decide,rfl⟩,rfl⟩):p:=h
theorem q7b2129 (h:p:=by
 have hx:l.take k=l:=List.take_of_length_le (by rw[hll.out];exact Nat.le_refl _);rw[hx];generalize hq:k+lens l=q at *;have HQ:=Hd hq;clear hq
 go_wp2
 go_ret;exact⟨ret_int (by have:=HQ.out;omega),rfl⟩):p:=h
theorem q23c0c4 (h:p:=by
 go_enter Tryz.func105,Tryz.ntmps105;exact q11f35a):p:=h
theorem q48fb75 (h:p:=by
 go_enter Tryz.func107,Tryz.ntmps107;exact q11f35a):p:=h
theorem qc13480 (h:p:=by
 go_enter Tryz.func208,Tryz.ntmps208
 go_wp2
 go_ret;exact⟨_,rfl,⟨rfl,.inl ⟨rfl,rfl⟩⟩,hgr,hnew⟩):p:=h
theorem q81d046 (h:p:=by
 rw[hts];clear hts;have hnew:Tk (w.setCell ⟨t,1,none⟩ (.int .i64 10)) t ⟨sl,10⟩:=
  ⟨a,cap,heap_setCell_at 1 (.int .i64 10) hblk,hbs.grown (grown_setCell _ _ _) (bs_ne hblk hbs)⟩
 have hgr:=grown_setCell w ⟨t,1,none⟩ (.int .i64 10);clear hblk hbs hT
 first|(have:=m23c0c4;exact q23c0c4)|(have:=m48fb75;exact q48fb75)|(have:=mc13480;exact qc13480)):p:=h
theorem q11f35a (h:p:=by
 go_wp2
 go_ret;exact⟨_,rfl,rfl,hgr,hnew⟩):p:=h
theorem q2ab758 (h:p:=by
 have hA:BoxAt W7 w4.heap.size #[.int .i64 p,.bool false,.slice a m c]:=by rw[←hW7,←hW6];exact BoxAt.al BoxAt.here
 have hC:BoxAt W7 (w4.heap.size+1) #[.string ⟨#[]⟩,.string ⟨#[]⟩,.slice none 0 0,.slice (some ⟨w4.heap.size,0,none⟩) 1 1]:=by rw[←hW7,←hs6];exact BoxAt.here
 have hbw7:=below_via hbw4 hb47;have nT:RNodeOn (fun x=>Fr F w4 x∧x<W7.heap.size) (N+1) W7 [.int .i64 p,.bool false,.slice a m c] t:=((H.out.below hbw7).lt).mono (fun b hb=>⟨.inl hb.1,hb.2⟩);exact qb94b03):p:=h
theorem q936347 (h:p:=by
 have hA:BoxAt W7 w4.heap.size #[.int .i64 p,.bool true,.slice a m c]:=by rw[←hW7,←hW6];exact BoxAt.al BoxAt.here
 have hC:BoxAt W7 (w4.heap.size+1) #[.string ⟨#[]⟩,.string ⟨#[]⟩,.slice none 0 0,.slice (some ⟨w4.heap.size,0,none⟩) 1 1]:=by rw[←hW7,←hs6];exact BoxAt.here
 have hbw7:=below_via hbw4 hb47;have nT:RNodeOn (fun x=>Fr F w4 x∧x<W7.heap.size) (N+1) W7 [.int .i64 p,.bool true,.slice a m c] t:=((H.out.below hbw7).lt).mono (fun b hb=>⟨.inl hb.1,hb.2⟩);exact qb94b03):p:=h
theorem q801141 (h:p:=by
 obtain⟨W7,hW7⟩:∃x,(W6.alloc (.cells #[.string ⟨#[]⟩,.string ⟨#[]⟩,.slice none 0 0,.slice (some ⟨w4.heap.size,0,none⟩) 1 1] 145))=x:=⟨_,rfl⟩
 have hs6:W6.heap.size=w4.heap.size+1:=by rw[←hW6];simp
 have hs7:W7.heap.size=w4.heap.size+2:=by rw[←hW7];simp;omega
 have hb47:Below w4.heap.size w4 W7:=by rw[←hW7,←hW6];exact Below.al (Below.al (Below.refl _ _))
 first|(have:=m2ab758;exact q2ab758)|(have:=m936347;exact q936347)):p:=h
theorem qc0a764 (h:p:=by
 rcases hv with hv|hv
 ·exact .inl hv
 ·exact .inr fun g e=>by rw[hv] at e;have:=Option.some.inj e;omega):p:=h
theorem qce611d (h:p:=by
 clear hlow hLB HE;go_wp2_with fail;refine bodyPost_ret (v:=.agg #[.int .i64 p,.bool false,.slice (some ⟨b,off,none⟩) m c]) (by simp only[results,Tryz.results127];simp[go_sem,t0,t1,t2]) rfl HE1.out):p:=h
theorem qcbdfaf (h:p:=by
 have HQ:=Hd hq0;clear hq0;go_enter Tryz.func181,Tryz.ntmps181;go_wp2_with fail;refine(N _).mono ?_;rintro e w2 ⟨rfl,rfl⟩;go_wp2_with fail;go_ret;exact⟨by rw[HZ.out];rfl,Below.al (Below.refl _ _)⟩):p:=h
theorem q258c8b (h:p:=by
 have C:=cget_any (hd1.below (Nat.le_trans hT hb1.size) hb0).one (hd1.below (Nat.le_trans hT hb1.size) hb0).half r vp vs hp;obtain⟨G,hG⟩:∃G,getDC d r vp vs=G:=⟨_,rfl⟩
 have hat:=getDC_at d r vp vs;have hval:valL d r seen ⟨vd,true,vs,vp⟩=if G.2.2≠0 then .error G.2.2 else match seeL seen G.2.1 with
  | none=>.error 11
  | some s=>.ok (s,⟨G.1,G.2.1⟩):=by
  unfold valL;rw[if_neg (by simp),hG]
  rfl
 rw[hG] at C hat;have HVAL:=Hd hval;have HAT:=Hd hat;have HX1:=Hd hx1;have HD1:=Hd hd1;have HB1:=Hd hb1;have HH:=Hd h;obtain⟨Gs,Gl,Ge⟩:=G;clear hval hat hx1 hd1 hb1 h hG c0 c1 o2 o3;go_enter Tryz.func97,Tryz.ntmps97;go_wp2_with fail
 go_region_held3 (fun W=>Below w1.heap.size w1 W) (with_reducible assumption) (first|(go_at_call 141;refine C.mono ?_;rintro e wx ⟨vx,rfl,hox,hbx⟩;have hBx:Below w1.heap.size w1 wx:=below_then hb0 hbx))
 have HBX:=Hd hBx;obtain⟨av,cv,rfl,_⟩:=own_slice hox;have HOX:=Hd hox;clear C cA cB cC cD hox hbx hBx hb0
 by_cases hE:Ge=0
 ·subst hE
  have hdx:=HD1.out.below (Nat.le_trans hT HB1.out.size) HBX.out;obtain⟨a',c',e',hrow⟩:=Row.of_own HOX.out;cases e';have hsz:=HBX.out.size;have hsz1:=HB1.out.size;have S5:=see_any (ps:=Gl) hdx (by have h5:Gl.length≤5:=HAT.out.2;omega) (fun p hq=>by
   rcases HAT.out.1 p hq with e|e
   ·rw[e];exact hp
   ·have:=pgC_lt e;unfold I64;omega) hrow (fun x ex=>by
   have h6:w1.heap.size≤x.block:=own_ge HOX.out x.block (by rw[ex];rfl);omega)
  go_wp2_with fail;refine(must_ok _).mono ?_;rintro e wy ⟨rfl,rfl⟩;go_wp2_with fail;refine S5.mono ?_;rintro e w4 ⟨ho4,hres⟩;cases hs:seeL seen Gl with
  | none=>
   rw[hs] at hres;have hres:e=.panicked (errP 11):=hres;subst hres;refine⟨rfl,?_⟩;rw[HVAL.out];refine⟨below_only (HB1.out.trans (HBX.out.mono hsz1)) ho4,?_⟩;rw[if_neg (by simp),hs]
  | some s=>
   rw[hs] at hres;obtain⟨rfl,hd4⟩:=hres;have hx4:=(HX1.out.step HBX.out).only ho4 (by intro q hq;simp at hq;rcases hq with rfl|rfl<;>simp<;>omega);have hsz4:=ho4.size;have f0:=hx4.frozen 0 0 rfl;have f1:=hx4.frozen 0 1 rfl;have k0:=hx4.cell 0 0 rfl rfl;have k1:=hx4.cell 0 1 rfl rfl;have hx5:=(hx4.put 0 (.string (strOf Gs)) (by intro q hq;simp at hq;subst hq;simp)).put 1 (.slice av Gl.length cv) (by intro q hq;simp at hq;subst hq;simp);have z0:=hx5.cell 0 0 rfl rfl;have z1:=hx5.cell 0 1 rfl rfl;have HE:Hid (ValPost T w lb mb da M d r (valL d r seen ⟨vd,true,vs,vp⟩) (.returned (.agg #[.string (strOf Gs),.slice av Gl.length cv])) ((w4.setCell ⟨w.heap.size+1,0,none⟩ (.string (strOf Gs))).setCell ⟨w.heap.size+1,1,none⟩ (.slice av Gl.length cv))):=Hd (by
    have hb5:Below w.heap.size w4 ((w4.setCell ⟨w.heap.size+1,0,none⟩ (.string (strOf Gs))).setCell ⟨w.heap.size+1,1,none⟩ (.slice av Gl.length cv)):=((Below.refl _ _).setCell (by show w.heap.size≤w.heap.size+1;omega) _).setCell (by show w.heap.size≤w.heap.size+1;omega) _;have ho:Only [mb] w w4:=below_only (HB1.out.trans (HBX.out.mono hsz1)) ho4;refine⟨⟨hb5.os.trans ho.1,hb5.tape.trans ho.2.1,hb5.output.trans ho.2.2.1,Nat.le_trans ho.size hb5.size,fun k hk hS=>(hb5.block k hk).trans (ho.block hk hS)⟩,?_⟩;rw[HVAL.out,if_neg (by simp),hs];have hrow4:=row_only hrow ho4 (fun x ex=>by
     have h6:w1.heap.size≤x.block:=own_ge HOX.out x.block (by rw[ex];rfl);omega)
    refine⟨_,rfl,⟨av,_,cv,rfl,?_,?_⟩,hd4.past (hb5.mono hT)⟩
    ·exact row_at hrow4 hb5.size (fun x ex=>by
      have h6:w1.heap.size≤x.block:=own_ge HOX.out x.block (by rw[ex];rfl);have h7:=HX1.out.lt 0 rfl;have h8:w.heap.size+1<w1.heap.size:=h7;exact(Below.heap_setCell _ _ _ x.block (fun e=>by have:x.block=w.heap.size+1:=e;omega)).trans (Below.heap_setCell _ _ _ x.block (fun e=>by have:x.block=w.heap.size+1:=e;omega)))
    ·exact Fa.of_own HOX.out (fun b hb=>Nat.le_trans hsz1 hb))
   clear hx4 hx5 hrow hd4 hdx hs S5;go_wp2_with fail;refine bodyPost_ret (v:=.agg #[.string (strOf Gs),.slice av Gl.length cv]) (by simp[results,Tryz.results97,go_sem,z0,z1]) rfl ?_;exact HE.out
 ·go_wp2_with fail
  refine(must_bad hE _).mono ?_;rintro e wy ⟨rfl,rfl⟩;refine⟨rfl,?_⟩;rw[HVAL.out];refine⟨Only.of_below (HB1.out.trans (HBX.out.mono HB1.out.size)),?_⟩;rw[if_pos hE]):p:=h
theorem qe798b6 (h:p:=by
 have C:=crget_any (hd1.below hb0).regs hd1.l9 r vp vs;obtain⟨G,hG⟩:∃G,getDC d r vp vs=G:=⟨_,rfl⟩
 have hat:=(getDC_at d r vp vs).2;have herr:=getDC_err (d:=d) (r:=r) (first:=vp) (size:=vs);have hval:valL d r seen ⟨vd,true,vs,vp⟩=if G.2.2≠0 then .error G.2.2 else match seeL seen G.2.1 with
  | none=>.error 11
  | some s=>.ok (s,⟨G.1,G.2.1⟩):=by
  unfold valL;rw[if_neg (by simp),hG]
  rfl
 rw[hG] at C hat herr;have HVAL:=Hd hval;have HX1:=Hd hx1;have HD1:=Hd hd1;have HB1:=Hd hb1;have HERR:=Hd herr;obtain⟨Gs,Gl,Ge⟩:=G;have hat:Gl.length≤5:=hat;clear hval hx1 hd1 hb1 h hG c0 c1 o2 o3 herr;go_enter Tryz.func102,Tryz.ntmps102;go_wp2_with fail
 go_region_held3 (fun W=>Below w1.heap.size w1 W) (with_reducible assumption) (first|(go_at_call 149;refine C.mono ?_;rintro e wx ⟨vx,rfl,hox,hbx⟩;have hBx:Below w1.heap.size w1 wx:=below_then hb0 hbx))
 have HBX:=Hd hBx;have hsx:=hBx.size;obtain⟨av,cv,rfl,_⟩:=own_slice hox;have HOX:=Hd hox;have hdx:=HD1.out.below HBX.out;have b3:=hdx.box.cell 0 3 rfl rfl;have f3:=hdx.box.frozen 0 3 rfl;obtain⟨w3,hw3⟩:∃x,wx.setCell ⟨sb,3,none⟩ (.int .i64 Ge)=x:=⟨_,rfl⟩
 have hd3:=hdx.err Ge;rw[hw3] at hd3;have HS3:=Hd (show w3.heap.size=wx.heap.size by rw[←hw3];simp);have ho3:Only (RS sb v) wx w3:=by rw[←hw3];exact(Only.refl _ _).set _ _ (RS.mem.2 (.inl rfl))
 have HX3:=Hd ((HX1.out.step HBX.out).only ho3 (by
  intro q hq hm;have hq2:w.heap.size≤q.1:=by simp at hq;rcases hq with rfl|rfl<;>simp
  rcases RS.mem.1 hm with e|e
  ·omega
  ·have:=HVB.out _ e;omega))
 have HD3:=Hd hd3;clear C cA cB cC cD hox hbx hBx hb0 hdx hd3;go_wp2_with fail;obtain⟨a',c',e',hrowx⟩:=Row.of_own HOX.out;cases e';have hgA:∀x,av=some x→w1.heap.size≤x.block:=fun x ex=>own_ge HOX.out x.block (by rw[ex];rfl)
 have hgL:∀x,av=some x→0<Gl.length→x.block<wx.heap.size:=fun x ex h0=>by
  obtain⟨b,off,e1,hb,_⟩:=hrowx.2.2.2.2.resolve_left (by omega);rw[e1] at ex;cases ex;exact hb
 have hAt:∀W,Only (RS sb v) w3 W→Row .i64 W av Gl.length cv Gl:=fun W hW=>by
  have h1:Row .i64 w3 av Gl.length cv Gl:=row_at hrowx ho3.size (fun x ex=>by
   rcases Nat.eq_zero_or_pos Gl.length with h0|h0
   ·rw[←hw3]
    refine Below.heap_setCell _ _ _ x.block (fun e=>?_);have:=hgA x ex;have:=HB1.out.size;have e:x.block=sb:=e;omega
   ·exact ho3.block (hgL x ex h0) (fun hm=>by have:=hgA x ex;have:=HB1.out.size;rcases RS.mem.1 hm with e|e;omega;have:=HVB.out _ e;omega))
  refine⟨h1.1,h1.2.1,h1.2.2.1,h1.2.2.2.1,h1.2.2.2.2.imp id ?_⟩;rintro⟨b,off,rfl,hb,hc⟩;have:=hW.size;exact⟨b,off,rfl,by omega,fun i hi=>(show W.cell? ⟨b,off+i,none⟩=w3.cell? ⟨b,off+i,none⟩ from World.cell?_of_block (hW.block (k:=b) hb (fun hm=>by have h2:w1.heap.size≤b:=hgA _ rfl;have:=HB1.out.size;rcases RS.mem.1 hm with e|e;omega;have:=HVB.out _ e;omega))).trans (hc i hi)⟩
 have HAT:=Hd hAt;have HGA:=Hd hgA;have HGL:=Hd hgL;have HO3:=Hd ho3;clear hAt hgA hgL hrowx ho3 hw3
 go_loopw [8] (fun s8 wr=>∃(i:Nat) (vi:Value),i≤Gl.length∧s8=.int .i64 i∧RLd wr sb a len cap d r vi (seen++Gl.take i) (if Ge=0 then seeE seen (Gl.take i) else Ge)∧Only (RS sb v) w3 wr∧Turn w3 v vi) (fun s _=>Gl.length-(intOf s).toNat)
 case atStart=>exact⟨0,v,Nat.zero_le _,rfl,by
  have h0:(if Ge=0 then seeE seen (Gl.take 0) else Ge)=Ge:=by
   split
   ·rename_i h;rw[h];rfl
   ·rfl
  rw[h0];simpa using HD3.out,Only.refl _ _,Turn.refl _ _⟩
 case round=>
  obtain⟨i,vi,hi,rfl,h1,ho,ht⟩:=hrel;have iw2:IntKind.i64.wrap ((i:Int)+1)=(i:Int)+1:=by simp[IntKind.wrap,IntKind.signed,IntKind.bits];omega
  by_cases hlt:i<Gl.length
  ·have hG0:Ge=0:=Classical.byContradiction fun hc=>by have h9:Gl=[]:=HERR.out hc;rw[h9] at hlt;simp at hlt
   subst hG0;rw[if_pos rfl] at h1;obtain⟨b,off,rfl,hbl,hc⟩:=(HAT.out wr ho).2.2.2.2.resolve_left (by omega);have k0:=hc i hlt;obtain⟨q,hq⟩:∃q,Gl[i]? = some q:=⟨Gl[i]'hlt,by simp⟩
   rw[hq] at k0;have k0:wr.cell? ⟨b,off+i,none⟩=some (.int .i64 q):=k0;have htk:Gl.take (i+1)=Gl.take i++[q]:=List.take_succ_eq_append_of hq;have q1:decide ((i:Int)<(Gl.length:Int))=true:=decide_eq_true (by omega);have q2:decide (i<Gl.length)=true:=decide_eq_true hlt;have S:=rsee_any h1 (by simp;omega) q;have HO:=Hd ho;have HT:=Hd ht;have HTK:=Hd htk;clear h1 ho ht hc hq htk;go_wp2_with fail;refine S.mono ?_;rintro e w4 ⟨rfl,v4,h4,ho4,ht4⟩;have hE4:seeE seen (Gl.take (i+1))=if seeE seen (Gl.take i)=0∧q∈seen++Gl.take i then 11 else seeE seen (Gl.take i):=by rw[HTK.out];exact seeE_snoc _ _ _
   have hn:RLd w4 sb a len cap d r v4 (seen++Gl.take (i+1)) (if (0:Int)=0 then seeE seen (Gl.take (i+1)) else 0):=by
    rw[if_pos rfl,hE4,HTK.out,←List.append_assoc];exact h4
   have HN:=Hd hn;have HO5:=Hd (only_next HO.out HT.out ho4);have HT5:=Hd (HT.out.trans ht4 HO.out.size);clear hn h4 ho4 ht4 hE4;go_wp2_with fail;go_roundw
   case rel=>exact⟨i+1,v4,hlt,by go_num,by simpa using HN.out,HO5.out,HT5.out⟩
   case measure=>simp[intOf];omega
  ·have hin:i=Gl.length:=by omega
   subst hin;rw[List.take_length] at h1;have q1:decide ((Gl.length:Int)<(Gl.length:Int))=false:=decide_eq_false (by omega);have q2:decide (Gl.length<Gl.length)=false:=decide_eq_false hlt;have hbk:∀q∈[(w.heap.size+1,[Value.string ⟨#[]⟩,Value.slice none 0 0])],q.1∉RS sb v:=by
    intro q hq hm;have hq2:q.1=w.heap.size+1:=by simp at hq;rw[hq]
    rcases RS.mem.1 hm with e|e
    ·omega
    ·have:=HVB.out _ e;omega
   have hx4:Boxes wr [(w.heap.size+1,[.string ⟨#[]⟩,.slice none 0 0])]:=(HX3.out.sub (m:=[(w.heap.size+1,[.string ⟨#[]⟩,.slice none 0 0])]) (by intro q hq;simp at hq ⊢;subst hq;exact .inl rfl)).only ho hbk;have f0:=hx4.frozen 0 0 rfl;have f1:=hx4.frozen 0 1 rfl;have k0:=hx4.cell 0 0 rfl rfl;have k1:=hx4.cell 0 1 rfl rfl;have hx5:=(hx4.put 0 (.string (strOf Gs)) (by intro q hq;simp at hq)).put 1 (.slice av Gl.length cv) (by intro q hq;simp at hq);have z0:=hx5.cell 0 0 rfl rfl;have z1:=hx5.cell 0 1 rfl rfl;have HE:Hid (RLeafPost w sb a len cap d r v (valL d r seen ⟨vd,true,vs,vp⟩) (.returned (.agg #[.string (strOf Gs),.slice av Gl.length cv])) ((wr.setCell ⟨w.heap.size+1,0,none⟩ (.string (strOf Gs))).setCell ⟨w.heap.size+1,1,none⟩ (.slice av Gl.length cv))):=Hd (by
    obtain⟨we,hwe⟩:∃x,x=((wr.setCell ⟨w.heap.size+1,0,none⟩ (.string (strOf Gs))).setCell ⟨w.heap.size+1,1,none⟩ (.slice av Gl.length cv)):=⟨_,rfl⟩
    rw[←hwe];have ho5:Only [w.heap.size+1] wr we:=by rw[hwe];exact((Only.refl _ _).set _ _ (by simp)).set _ _ (by simp)
    have hs1:=HS1.out;have hs3:=HS3.out;have hvb:∀k,vi.ownBlock=some k→k<w.heap.size∨wx.heap.size≤k:=fun k hk=>by
     rcases ht with t|t
     ·exact .inl (HVB.out k (t ▸ hk))
     ·have:=t k hk;exact .inr (by omega)
    have hdE:=h1.only ho5 (fun k hk=>by
     have hk:k=w.heap.size+1:=by simpa using hk
     subst hk;exact⟨by omega,fun e=>by rcases hvb _ e with e|e<;>omega⟩)
    have hoA:Only (RS sb v) w wr:=((Only.of_below (HB1.out.trans (HBX.out.mono HB1.out.size))).trans HO3.out).trans ho;have hszr:=ho.size;refine⟨strOf Gs,av,Gl.length,cv,vi,_,_,rfl,hdE,hoA.then ho5 (fun k hk=>.inr (by simp at hk;omega)),ht.from (by have:=HBX.out.size;omega),?_⟩;rw[HVAL.out]
    by_cases hE0:Ge=0
    ·rw[if_neg (by simpa using hE0),if_pos hE0]
     cases hs:seeL seen Gl with
     | none=>exact⟨by unfold seeE;rw[hs];rfl,by omega⟩
     | some s=>
      refine⟨by unfold seeE;rw[hs];rfl,(seeL_app hs).symm,av,_,cv,rfl,?_,?_⟩
      ·refine row_at (HAT.out wr ho) ho5.size (fun x ex=>?_)
       have:=HGA.out x ex;rw[hwe];exact(Below.heap_setCell _ _ _ x.block (fun e=>by have:x.block=w.heap.size+1:=e;omega)).trans (Below.heap_setCell _ _ _ x.block (fun e=>by have:x.block=w.heap.size+1:=e;omega))
      ·rcases Nat.eq_zero_or_pos Gl.length with h0|h0
       ·exact .inl h0
       ·refine .inr fun b off e=>?_
        have g1:w1.heap.size≤b:=HGA.out _ e;have g2:b<wx.heap.size:=HGL.out _ e h0;exact⟨by omega,fun e=>by rcases hvb _ e with e|e<;>omega⟩
    ·rw[if_pos (by simpa using hE0),if_neg hE0]
     exact⟨rfl,hE0⟩)
   clear hx4 hx5 h1 ho ht;go_wp2_with fail;refine bodyPost_ret (v:=.agg #[.string (strOf Gs),.slice av Gl.length cv]) (by simp[results,Tryz.results102,go_sem,z0,z1]) rfl ?_;exact HE.out):p:=h
theorem qe36c20 (h:p:=by
 have cC:∀W,Below w1.heap.size w1 W→W.cell? ⟨w.heap.size,2,none⟩=some (.int .i64 vs):=fun W hW=>(hW.cell (p:=⟨w.heap.size,2,none⟩) hx0).trans o2
 have cD:∀W,Below w1.heap.size w1 W→W.cell? ⟨w.heap.size,3,none⟩=some (.int .i64 vp):=fun W hW=>(hW.cell (p:=⟨w.heap.size,3,none⟩) hx0).trans o3
 have hb0:Below w1.heap.size w1 w1.drew:=below_drewN (Below.refl _ _) 1
 first|(have:=m258c8b;exact q258c8b)|(have:=me798b6;exact qe798b6)):p:=h
theorem qbaf2d3 (h:p:=by
 go_loopw [8,44] (fun s8 s44 wr=>∃i far:Nat,i≤m∧far≤1000∧s44=.int .i64 i∧s8=.int .i64 far∧depK (fun t lo hi=>depthT n t lo hi false) lo hi i far (l.drop i)=R∧Below w.heap.size w wr∧Boxes wr [(w.heap.size+1,[.string (strOf lo),.string (strOf hi)]),(w.heap.size,[.int .i64 pg,.bool false,.slice ka m kc,.slice va vn vc,.slice ca m cc])]) (fun _ s _=>m-(intOf s).toNat)
 case atStart=>exact⟨0,0,Nat.zero_le _,Nat.zero_le _,rfl,rfl,HQ1.out.symm,HB2.out,HX2.out⟩
 case round=>
  exact q842745):p:=h
theorem q7dbf25 (h:p:=by
 go_loopw [8,44] (fun s8 s44 wr=>∃i far:Nat,i≤m∧far≤1000∧s44=.int .i64 i∧s8=.int .i64 far∧depK (fun t lo hi=>depthT n t lo hi false) lo hi i far (l.drop i)=R∧Below w.heap.size w wr∧Boxes wr [(w.heap.size+1,[.string (strOf lo),.string (strOf hi)]),(w.heap.size,[.int .i64 pg,.bool false,.slice ka m kc,.slice va vn vc,.slice ca m cc])]) (fun _ s _=>m-(intOf s).toNat)
 case atStart=>exact⟨0,0,Nat.zero_le _,Nat.zero_le _,rfl,rfl,HQ1.out.symm,HB3.out,HX3.out⟩
 case round=>
  exact q842745):p:=h
theorem q5bebf9 (h:p:=by
 obtain⟨q1,q2,q3,q4,q5⟩:=HL1.out (by first|rfl|trivial);have HQ1:=Hd (q1 HP.out);have HLL:=Hd q2;have HKL:=Hd q3;have HKS:=Hd q4;have HT:=Hd q5;have HK:Hid (∀i,i<m→(K[i]?.getD []).length≤200):=Hd (fun i hi=>by
  have:=(q4 l[i] (List.getElem_mem (by omega))).1;rw[←q3];simpa[keysOf,show i<l.length by omega] using this)
 clear q1 q2 q3 q4 q5 CS CSum;go_wp2_with fail
 first|(have:=mbaf2d3;exact qbaf2d3)|(have:=m7dbf25;exact q7dbf25)):p:=h
theorem qceefca (h:p:=by
 go_wp2_with fail
 try rw[hwA]
 refine CF.mono ?_;rintro e w2 ⟨rfl,hb2⟩;have HB2:=Hd (HB.out.trans (hb2.mono HB.out.size));clear CF hb2;go_wp2_with fail;go_ret;exact⟨by rw[HCK.out];rfl,HB2.out⟩):p:=h
theorem q560a6a (h:p:=by
 obtain⟨X1,hX1⟩:∃z:Bool,(F != E)=z:=⟨_,rfl⟩
 have m202c07:=trivial;exact q3a8408):p:=h
theorem qcb36f0 (h:p:=by
 obtain⟨X1,hX1⟩:∃z:Bool,(false != E)=z:=⟨_,rfl⟩
 have m4c2f7b:=trivial;exact q3a8408):p:=h
theorem q91f841 (h:p:=by
 clear hwc v0 v1 v2 v3;obtain⟨E,hE⟩:∃z:Bool,(decide (k=[]))=z:=⟨_,rfl⟩
 have HE3:Hid ((E=true∧(strOf k).toList=[]∧(strOf k).toList.isEmpty=true)∨(E=false∧¬(strOf k).toList=[]∧(strOf k).toList.isEmpty=false)):=Hd (by
  rw[←hE]
  by_cases h:k=[]
  ·exact .inl ⟨decide_eq_true h,str_empty h⟩
  ·exact .inr ⟨decide_eq_false h,str_some h⟩)
 first|(have:=m560a6a;exact q560a6a)|(have:=mcb36f0;exact qcb36f0)):p:=h
theorem q2b53f5 (h:p:=by
 cases hvl:(Value.slice aC LL.length cC).ownBlock with
 | none=>rw[hvl] at hm;simp at hm;exact .inl hm
 | some g=>rw[hvl] at hm;simp at hm;rcases hm with rfl|rfl;exact .inl rfl;exact .inr rfl):p:=h
theorem q9332b0 (h:p:=by
 have hw:Region.wanted o (yielded ops a.tmps)=true:=by simp[Region.wanted,hgd]
 rw[if_pos hw];unfold Oper.wp execOp;simp only[ho,Sem.run_bind,Sem.run_pure,Result.andThen_ok,hx,hy,hr];exact h):p:=h
theorem qad665f (h:p:=by
 have:kind.toNat≠0:=fun e=>hk (UInt8.toNat_inj.1 e)
 simpa using this):p:=h
theorem qc2353c (h:p:=by
 have m8ae8a2:=trivial;exact q560125):p:=h
theorem q2076d5 (h:p:=by
 rw[hstep.1] at C;have m9b303c:=trivial;exact q560125):p:=h
theorem q2a6c41 (h:p:=by
 obtain⟨py,by9⟩:=y;dsimp only at *;obtain⟨c11,w11,hcv,hbs,hb11⟩:=str_bytes (P:=Tryz.prog) wr.drew Tryz.underlying9 Tryz.underlying42 Tryz.underlying5 by9 (by omega);rw[hy128] at hcv hbs;have hbd:Below wr.heap.size wr w11:=below_via (Below.dr (Below.refl _ _)) hb11;have hop:=hd.opens_at hbd;have C:=write_o hop hbs (fun g off e=>.inr (by cases e;exact Nat.le_refl _)) (by omega) 0 py
 first|(have:=mc2353c;exact qc2353c)|(have:=m2076d5;exact q2076d5)):p:=h
theorem qc9233d (h:p:=by
 simp only[Nat.zero_mul,Nat.zero_add]
 rcases m with _|_|_|m
 ·cases hu;exact hxk6.cell 0 0 rfl rfl
 ·cases hu;exact hxk6.cell 0 1 rfl rfl
 ·cases hu;exact hxk6.cell 0 2 rfl rfl
 ·simp at hu):p:=h
theorem q7ce93d (h:p:=by
 have HH2:=Hd hh2;clear hh2;have HE:Hid (FT=false):=Hd (by rw[HFIT.out,fitTo_bad (i:=(i+1)) (by omega) (by unfold fitAt;rw[HKK.out,HKP.out];simp[HH.out,HH2.out])];rfl);exact q993faf):p:=h
theorem q49d90f (h:p:=by
 have M1:∀W,Calls Tryz.prog 230 #[.agg #[],.int .i64 (k:Int),.agg #[.string (strOf e.key),.string (strOf e.v.data),.bool e.v.far,.int .i64 e.v.size,.int .i64 e.v.page]] W fun en w'=>en=.returned (.bool (mayN true k e))∧Below W.heap.size W w':=fun W=>mayL_any e k W (by omega)
 have hmp:=m_mayL;have hgd:l[k]?.getD ⟨[],Vv.zero⟩=e:=by rw[hy];rfl
 have hst:stepN true l k=(mayN true k e && !(decide (0<k) && kle e.key (l[k-1]?.getD ⟨[],Vv.zero⟩).key)):=by rw[stepN,hgd]
 have hus:upN true l (k+1)=stepN true l k:=by rw[upN_succ,hup,Bool.true_and]
 have HST:=Hd hst;have HUS:=Hd hus;have HGD:=Hd hgd;have hsize:b<wr.heap.size:=hbb;clear hb6 hst hus hup hgd BX hbb;cases hm:mayN true k e with
 | false=>
  rw[hm] at M1;have HF:Hid (nodeB true l=false):=Hd (nodeB_step (by rw[hll.out];exact hlt) (by rw[HST.out,hm];rfl));clear hm;have me7858f:=trivial;exact qffd49c
 | true=>
  rw[hm] at M1
  by_cases hk0:k=0
  ·subst hk0
   have HU:Hid (upN true l (0+1)=true):=Hd (by rw[HUS.out,HST.out,hm];rfl);clear hm HGD;simp only[Nat.zero_mul,Nat.add_zero] at e0 e1 e2 e3 e4;have M1:∀W,Calls Tryz.prog 230 #[.agg #[],.int .i64 0,.agg #[.string (strOf e.key),.string (strOf e.v.data),.bool e.v.far,.int .i64 e.v.size,.int .i64 e.v.page]] W fun en w'=>en=.returned (.bool true)∧Below W.heap.size W w':=M1
   have m2f39d1:=trivial;exact qffd49c
  ·obtain⟨p,hp1,hp2⟩:∃p,p+1=k∧p<len:=⟨k-1,by omega,by omega⟩
   obtain⟨b2,off2,e',hq,hb2l,hy2,hc',_⟩:=(h.below (Nat.le_refl _) hbw).at hp2;cases hq;have hg2:l[k-1]?.getD ⟨[],Vv.zero⟩=e':=by rw[show k-1=p by omega,hy2];rfl
   have hst2:stepN true l k = !kle e.key e'.key:=by rw[HST.out,hm,hg2,show decide (0<k)=true by simp;omega];simp
   have m75e9e3:=trivial;exact q3b7127):p:=h
theorem q638339 (h:p:=by
 have M1:∀W,Calls Tryz.prog 237 #[.agg #[],.int .i64 (k:Int),.agg #[.string (strOf e.key),.string (strOf e.v.data),.bool e.v.far,.int .i64 e.v.size,.int .i64 e.v.page]] W fun en w'=>en=.returned (.bool (mayN false k e))∧Below W.heap.size W w':=fun W=>mayB_any e k W (by omega)
 have hmp:=m_mayB;have hgd:l[k]?.getD ⟨[],Vv.zero⟩=e:=by rw[hy];rfl
 have hst:stepN false l k=(mayN false k e && !(decide (0<k) && kle e.key (l[k-1]?.getD ⟨[],Vv.zero⟩).key)):=by rw[stepN,hgd]
 have hus:upN false l (k+1)=stepN false l k:=by rw[upN_succ,hup,Bool.true_and]
 have HST:=Hd hst;have HUS:=Hd hus;have HGD:=Hd hgd;have hsize:b<wr.heap.size:=hbb;clear hb6 hst hus hup hgd BX hbb;cases hm:mayN false k e with
 | false=>
  rw[hm] at M1;have HF:Hid (nodeB false l=false):=Hd (nodeB_step (by rw[hll.out];exact hlt) (by rw[HST.out,hm];rfl));clear hm;have mfe7128:=trivial;exact qffd49c
 | true=>
  rw[hm] at M1
  by_cases hk0:k=0
  ·subst hk0
   have HU:Hid (upN false l (0+1)=true):=Hd (by rw[HUS.out,HST.out,hm];rfl);clear hm HGD;simp only[Nat.zero_mul,Nat.add_zero] at e0 e1 e2 e3 e4;have M1:∀W,Calls Tryz.prog 237 #[.agg #[],.int .i64 0,.agg #[.string (strOf e.key),.string (strOf e.v.data),.bool e.v.far,.int .i64 e.v.size,.int .i64 e.v.page]] W fun en w'=>en=.returned (.bool true)∧Below W.heap.size W w':=M1
   have m0b5dc5:=trivial;exact qffd49c
  ·obtain⟨p,hp1,hp2⟩:∃p,p+1=k∧p<len:=⟨k-1,by omega,by omega⟩
   obtain⟨b2,off2,e',hq,hb2l,hy2,hc',_⟩:=(h.below (Nat.le_refl _) hbw).at hp2;cases hq;have hg2:l[k-1]?.getD ⟨[],Vv.zero⟩=e':=by rw[show k-1=p by omega,hy2];rfl
   have hst2:stepN false l k = !kle e.key e'.key:=by rw[HST.out,hm,hg2,show decide (0<k)=true by simp;omega];simp
   have m329a06:=trivial;exact q3b7127):p:=h
theorem qed1745 (h:p:=by
 have B6:=BX.alloc #[.string (strOf e.key),.string (strOf e.v.data),.bool e.v.far,.int .i64 e.v.size,.int .i64 e.v.page] 211 rfl;have hb6:=below_one wr (.cells #[.string (strOf e.key),.string (strOf e.v.data),.bool e.v.far,.int .i64 e.v.size,.int .i64 e.v.page] 211);have hbw6:=below_then hbw hb6;have hr6:=(h.below (Nat.le_refl _) hbw6)
 obtain⟨hl1,hl2⟩:=HI.out e (List.mem_of_getElem? hy)
 first|(have:=m49d90f;exact q49d90f)|(have:=m638339;exact q638339)):p:=h
theorem q0da5fb (h:p:=by
 have hw:Region.wanted o (yielded ops a.tmps)=true:=by simp[Region.wanted,hgd]
 rw[if_pos hw];unfold Oper.wp execOp;simp only[ho,Sem.run_bind,Sem.run_pure,Result.andThen_ok,hx,hr];exact h):p:=h
theorem q5a5905 (h:p:=by
 by_cases hlt:i<kn
 ·obtain⟨bk,ok,rfl,hbk9,hck⟩:=HH1.out.at hlt
  have k0:=(hb.cell (p:=⟨bk,ok+i,none⟩) hbk9).trans hck;obtain⟨k,hk⟩:∃k,(keysOf l)[i]?.getD []=k:=⟨_,rfl⟩
  rw[hk] at k0;have HK:=Hd hk;have HX:=Hd hx;have HC:=Hd hc;have HB:=Hd hb;have hbk8:=Nat.lt_of_lt_of_le hbk9 hb.size;have hsl:=hc.sl;rw[show((cellsR (.leaf p l)).take i).length=i by rw[List.length_take,HCL.out];omega] at hsl;obtain⟨va0,vc0,rfl,hvc0,hvm0,_,_⟩:=hsl;clear hk hck hx hc;obtain⟨bv,ov,tv,tcs,rfl,hbv,hyv,_,⟨pa,pn,pc,rfl,hrow,hfa⟩,hcv⟩:=TabR.at HV.out hlt;have v0:=(hb.cell (p:=⟨bv,ov+i*2,none⟩) hbv).trans (hcv 0 _ rfl);have v1:=(hb.cell (p:=⟨bv,ov+i*2+1,none⟩) hbv).trans (hcv 1 _ rfl);have hbv8:=Nat.lt_of_lt_of_le hbv hb.size;have HYV:=Hd hyv;have HROW:=Hd hrow;have HFA:=Hd hfa;clear hyv hrow hfa hcv;obtain⟨wx,hwx⟩:∃wx,(wr.alloc (.cells #[.string (strOf k),.string (strOf tv.data),.slice pa pn pc,.slice none 0 0] 145)).drew=wx:=⟨_,rfl⟩
  have hwb:Below wr.heap.size wr wx:=by rw[←hwx];exact Below.dr (Below.al (Below.refl _ _))
  have hxq:Boxes wx [(wr.heap.size,[.string (strOf k),.string (strOf tv.data),.slice pa pn pc,.slice none 0 0])]:=by rw[←hwx];exact((Boxes.nil wr).alloc #[.string (strOf k),.string (strOf tv.data),.slice pa pn pc,.slice none 0 0] 145 rfl).drew
  have hy:RcOn (Gp F (w.heap.size+3) (.slice va0 i vc0)) n wx [.string (strOf k),.string (strOf tv.data),.slice pa pn pc,.slice none 0 0] ⟨k,tv,none⟩:=⟨pa,pn,pc,none,0,0,rfl,(HROW.out.below (Nat.le_refl _) hb).below (Nat.le_refl _) hwb,HFA.out.mono (fun b hf=>⟨.inl hf,fun e=>by have:=HC.out.block e;have:=hF b hf;omega⟩),TabR.nil _,Fa.zero _ _⟩
  have hyi:(cellsR (.leaf p l))[i]? = some ⟨k,tv,none⟩:=by
   rw[cellsR_leaf];have:=HYV.out;rw[List.getElem?_map] at this;obtain⟨c,hc1,hc2⟩:=Option.map_eq_some_iff.1 this;have hk:=HK.out;rw[hc1,←hk,←hc2];simp[keysOf,hc1]
  obtain⟨v',w8,hr8,hc8,hg8⟩:=CellsOwn.append (P:=Tryz.prog) (t:=25) Tryz.underlying25 info_Cc (HC.out.below hwb) (by have:=hwb.size;omega) (fun b hf=>by have:=hF b hf;omega) (by rw[List.length_take];omega) hy;rw[←List.take_succ_eq_append_of hyi] at hc8;have hlen:((cellsR (.leaf p l)).take (i+1)).length=i+1:=by rw[List.length_take,HCL.out];omega
  have me6df50:=trivial;exact qfbe583
 ·obtain rfl:i=kn:=by omega
  have hc9:CellsOwn 145 F n (w.heap.size+3) wr v (cellsR (.leaf p l)):=by
   have:=hc
   rwa [List.take_of_length_le (by rw[HCL.out];exact Nat.le_refl _)] at this
  have hsl:=hc9.sl;rw[HCL.out] at hsl;obtain⟨va0,vc0,rfl,hvc0,hvm0,_,_⟩:=hsl;have HC:=Hd hc9;have HB:=Hd hb;have z0:=hx.cell 1 0 rfl rfl;have z1:=hx.cell 1 1 rfl rfl;have z2:=hx.cell 1 2 rfl rfl;have y0:=hx.frozen 1 0 rfl;have y1:=hx.frozen 1 1 rfl;have y2:=hx.frozen 1 2 rfl;have HXE:=Hd hx;clear hc hc9 hx hb;have hend:RNodeTo F (n+1) w (.leaf p l) (.returned (.agg #[.int .i64 p,.bool true,.slice va0 i vc0])) (((wr.setCell ⟨w.heap.size+1,0,none⟩ (.int .i64 p)).setCell ⟨w.heap.size+1,1,none⟩ (.bool true)).setCell ⟨w.heap.size+1,2,none⟩ (.slice va0 i vc0)):=by
   have m95eaa0:=trivial;exact q1e80c2
  have hxw:=(((HXE.out.sub (m:=[(w.heap.size+1,[.int .i64 0,.bool false,.slice none 0 0])]) (by simp)).put 0 (.int .i64 p) (by simp)).put 1 (.bool true) (by simp)).put 2 (.slice va0 i vc0) (by simp);have g0:=hxw.cell 0 0 rfl rfl;have g1:=hxw.cell 0 1 rfl rfl;have g2:=hxw.cell 0 2 rfl rfl;have HG:=Hd (And.intro g0 (And.intro g1 g2));clear g0 g1 g2 hxw;have HE:=Hd hend;clear hend;go_wp2_with fail;refine bodyPost_ret (v:=.agg #[.int .i64 p,.bool true,.slice va0 i vc0]) (by obtain⟨g0,g1,g2⟩:=HG.out;simp only[results,Tryz.results18];simp[go_sem,g0,g1,g2]) rfl ?_;exact HE.out):p:=h
end
end Go.Proofs.YtpghlmcoajaiiaaGreatDoor
