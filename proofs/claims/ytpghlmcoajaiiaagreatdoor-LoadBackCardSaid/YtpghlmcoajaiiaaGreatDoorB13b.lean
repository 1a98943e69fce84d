/- What follows of it. -/
import Derived.Test.YtpghlmcoajaiiaaGreatDoorB13
set_option maxHeartbeats 20000000
set_option maxRecDepth 100000
namespace Go.Proofs.YtpghlmcoajaiiaaGreatDoor
open Go.RowKit
theorem rnode_any:∀{n:Nat} {w:World} {cs:List Value} {t:Tr} {F:Nat→Prop},RNodeOn F n w cs t→Bnd n t→n≤1000→∀(lo hi:List UInt8) (root:Bool),lo.length≤1000→hi.length≤1000 →
 Calls Tryz.prog 103 #[.agg cs.toArray,.string (strOf lo),.string (strOf hi),.bool root] w fun e w'=>e=.returned (.int .i64 (depI (depthT n t lo hi root)))∧Below w.heap.size w w'
 | 0,_,_,_,_,h,_,_,_,_,_,_,_=>h.elim
 | _n+1,_,_,.leaf _p _l,_,h,hb,hn,lo,hi,root,hlo,hhi=>rnode_leaf h hb (by omega) lo hi root hlo hhi
 | _n+1,_,_,.node _p _l,_,h,hb,hn,lo,hi,root,hlo,hhi=>rnode_branch (fun h hb lo hi hlo hhi=>rnode_any h hb (by omega) lo hi false hlo hhi) h hb (by omega) lo hi root hlo hhi
theorem rcheck_any {n:Nat} {F:Nat→Prop} {w:World} {cs:List Value} {t:Tr} (h:RNodeOn F n w cs t) (hb:Bnd n t) (hn:n≤1000) :
 Calls Tryz.prog 55 #[.agg cs.toArray] w fun e w'=>e=.returned (.bool (checkT n t))∧Below w.heap.size w w':=by
 cases n with
 | zero=>exact h.elim
 | succ n=>
 have hh:=h;obtain⟨a,c,rfl,h1,_⟩:=h.at;obtain⟨lf,hlf⟩:∃x,t.isLeaf=x:=⟨_,rfl⟩
 obtain⟨m,hm⟩:∃x,cntT t=x:=⟨_,rfl⟩
 obtain⟨pg,hpg⟩:∃x,t.page=x:=⟨_,rfl⟩
 have hm9:m≤1000:=by rw[←hm];exact hb.cnt
 rw[hlf,hm,hpg] at hh;have hB0:Below w.heap.size w (w.alloc (.cells #[.int .i64 pg,.bool lf,.slice a m c] 27)):=Below.al (Below.refl _ _);have hX0:Boxes _ [(w.heap.size,[.int .i64 pg,.bool lf,.slice a m c])]:=((Boxes.nil w).alloc #[.int .i64 pg,.bool lf,.slice a m c] 27 rfl)
 obtain⟨wA,hwA⟩:∃wA,w.alloc (.cells #[.int .i64 pg,.bool lf,.slice a m c] 27)=wA:=⟨_,rfl⟩
 rw[hwA] at hB0 hX0;rw[hlf,hm,hpg];have CF:=rnode_any (hh.below hB0) hb hn [] [] true (by decide) (by decide);have hck:checkT (n+1) t=(emptyB t || (depthT (n+1) t [] [] true).isSome):=rfl;obtain⟨D,hD⟩:∃D,depthT (n+1) t [] [] true=D:=⟨_,rfl⟩
 rw[hD] at CF hck;have hem:emptyB t=(lf && (pg == 0 && m == 0)):=by
  rw[←hlf,←hpg,←hm];cases t with
  | leaf p l=>cases l<;>rfl
  | node p l=>rfl
 have h0:=depI_nn D;have hs0:strOf []=⟨#[]⟩:=rfl;rw[hs0] at CF;have HCK:Hid (checkT (n+1) t=(lf && (pg == 0 && m == 0) || D.isSome)):=Hd (by rw[hck,hem]);have HB:=Hd hB0;have n0:=hX0.cell 0 0 rfl rfl;have n1:=hX0.cell 0 1 rfl rfl;have n2:=hX0.cell 0 2 rfl rfl;generalize depI D=di at *;generalize D.isSome=ds at *;generalize checkT (n+1) t=ck at *;clear hh h h1 hlf hm hpg hB0 hX0 hb hck hem hD;cases lf with
 | false=>
  go_enter Tryz.func55,Tryz.ntmps55;exact qceefca
 | true=>
  by_cases hm0:m=0
  ·subst hm0
   by_cases hp:pg=0
   ·subst hp
    have HE:Hid (ck=true):=Hd (by rw[HCK.out];rfl);go_enter Tryz.func55,Tryz.ntmps55;exact q993faf
   ·have HE:Hid (ck=ds):=Hd (by rw[HCK.out];simp[hp])
    have q1:(pg == 0)=false:=beq_eq_false_iff_ne.2 hp;have HM0:=Hd hp;clear hp;go_enter Tryz.func55,Tryz.ntmps55;exact qd21dd5
  ·have HE:Hid (ck=ds):=Hd (by rw[HCK.out];simp[hm0])
   have q1:((m:Int) == 0)=false:=beq_eq_false_iff_ne.2 (by omega);have HM0:=Hd hm0;clear hm0;go_enter Tryz.func55,Tryz.ntmps55;exact qd21dd5
open Go.RowKit
open Go.RowKit
open Go.RowKit
open Go.RowKit
open Go.RowKit
theorem RNodeOn.open_pos {F:Nat→Prop} {n:Nat} {w:World} {cs:List Value} {t:Tr} (h:RNodeOn F n w cs t):∃a m c,cs=[.int .i64 t.page,.bool t.isLeaf,.slice a m c]:=by
 cases n with
 | zero=>exact h.elim
 | succ n=>obtain⟨a,c,e,_⟩:=h.at;exact⟨a,_,c,e⟩
open Go.RowKit
theorem sum_take_le {α:Type} (f:α→Nat) (l:List α) (i:Nat):((l.take i).map f).sum≤(l.map f).sum:=by
 induction l generalizing i with
 | nil=>simp
 | cons x r ih=>
  cases i with
  | zero=>simp
  | succ i=>simp only[List.take_succ_cons,List.map_cons,List.sum_cons];have:=ih i;omega
theorem sum_take_succ {α:Type} (f:α→Nat) {l:List α} {i:Nat} {x:α} (h:l[i]? = some x):((l.take (i+1)).map f).sum=((l.take i).map f).sum+f x:=by
 rw[List.take_succ_eq_append_of h,List.map_append,List.sum_append];simp
theorem rfresh_leaf {n:Nat} {F:Nat→Prop} {w:World} {cs:List Value} {p:Int} {l:List (List UInt8×Tv)} (h:RNodeOn F (n+1) w cs (.leaf p l)) (hB:Bare (.leaf p l)) (hb:Bnd (n+1) (.leaf p l)) (hf:freshN (n+1) (.leaf p l)≤1000000) :
 Calls Tryz.prog 43 #[.agg cs.toArray] w fun e w'=>e=.returned (.int .i64 (freshN (n+1) (.leaf p l):Nat))∧Below w.heap.size w w':=by
 obtain⟨rfl,hv⟩:=bare_vals hB;obtain⟨a,c,rfl,h1,_⟩:=h.at;have hbl:l.length≤1000:=hb.1;have hcn:cntT (.leaf 0 l)=l.length:=rfl;rw[hcn] at h1;obtain⟨wb,hwb⟩:∃x,w.alloc (.cells #[.int .i64 0,.bool true,.slice a l.length c] 27)=x:=⟨_,rfl⟩
 have hB0:Below w.heap.size w wb:=by rw[←hwb];exact Below.al (Below.refl _ _)
 have hX0:Boxes wb [(w.heap.size,[.int .i64 0,.bool true,.slice a l.length c])]:=by rw[←hwb];exact(Boxes.nil w).alloc #[.int .i64 0,.bool true,.slice a l.length c] 27 rfl
 have c0:=hX0.cell 0 0 rfl rfl;have c1:=hX0.cell 0 1 rfl rfl;have c2:=hX0.cell 0 2 rfl rfl;have HV:=Hd hv;have H1:=Hd h1;have HX0:=Hd hX0;have HB0:=Hd hB0;have HF:=Hd hf;show Calls _ _ #[.agg #[.int .i64 0,.bool true,.slice a l.length c]] _ _
 by_cases hl0:l=[]
 ·subst hl0
  have HR:Hid (freshN (n+1) (.leaf 0 ([]:List (List UInt8×Tv)))=0):=Hd rfl;rw[HR.out];clear h hB hb hf hv h1 hX0 hB0 hcn hbl;rw[List.length_nil] at hwb c2;go_enter Tryz.func43,Tryz.ntmps43;go_wp2_with fail;go_ret;exact⟨rfl,HB0.out⟩
 ·obtain⟨m,hm⟩:∃m,freshN (n+1) (.leaf 0 l)=m:=⟨_,rfl⟩
  have hm2:m=1+(l.map fun c=>needC c.2.data.length).sum:=by rw[←hm];unfold freshN;rw[if_neg hl0]
  rw[hm] at hf;rw[hm];have HM:=Hd hm2;have hpos:0<l.length:=List.length_pos_iff.2 hl0;have q0:((l.length:Int) == 0)=false:=by simp;omega
  have q0':(l.length == 0)=false:=by simp;exact hl0
  clear h hB hb hv h1 hX0 hB0 hcn hm hm2;go_enter Tryz.func43,Tryz.ntmps43;go_wp2_with fail
  go_loopw [3,4,5] (fun s3 s4 _ wr=>∃i:Nat,i≤l.length∧s4=.int .i64 i∧s3=.int .i64 ((1+((l.take i).map fun c=>needC c.2.data.length).sum:Nat):Int)∧Below w.heap.size w wr∧Boxes wr [(w.heap.size,[.int .i64 0,.bool true,.slice a l.length c])]) (fun _ s _ _=>l.length-(intOf s).toNat)
  case atStart=>exact⟨0,Nat.zero_le _,rfl,rfl,HB0.out,HX0.out⟩
  case round=>
   obtain⟨i,hi,rfl,rfl,hbw,hx⟩:=hrel;have c0:=hx.cell 0 0 rfl rfl;have c1:=hx.cell 0 1 rfl rfl;have c2:=hx.cell 0 2 rfl rfl;have iw2:IntKind.i64.wrap ((i:Int)+1)=(i:Int)+1:=by simp[IntKind.wrap,IntKind.signed,IntKind.bits];omega
   by_cases hlt:i<l.length
   ·have H1L:TabR 4 (RcOn F n w) w a l.length c (cellsR (.leaf 0 l)):=H1.out
    obtain⟨b,off,y,pa,pn,pc,ka,kn,kc,rfl,hbb,hy,_,hrow,_,_,_,k0,k1,k2,k3⟩:=RNodeOn.cell H1L hlt;rw[cellsR_leaf] at hy;obtain⟨x,hx1,hx2⟩:=Option.map_eq_some_iff.1 hy;subst hx2;obtain⟨key,tv⟩:=x;dsimp only at *;have hpg:tv.pages=[]:=HV.out _ (List.mem_of_getElem? hx1);rw[hpg] at hrow;have hpn:pn=0:=hrow.1.symm;subst hpn;obtain⟨S0,hS0⟩:∃x,((l.take i).map fun c=>needC c.2.data.length).sum=x:=⟨_,rfl⟩
    obtain⟨N0,hN0⟩:∃x,needC tv.data.length=x:=⟨_,rfl⟩
    have hS1:((l.take (i+1)).map fun c=>needC c.2.data.length).sum=S0+N0:=by rw[sum_take_succ _ hx1,hS0];exact congrArg _ hN0
    have hS9:=sum_take_le (fun c:List UInt8×Tv=>needC c.2.data.length) l (i+1);rw[hS1] at hS9;have hm:=HM.out;have hSm:1+S0+N0≤1000000:=by omega
    rw[hS0];have g0:=(hbw.cell (p:=⟨b,off+i*4,none⟩) hbb).trans k0;have g1:=(hbw.cell (p:=⟨b,off+i*4+1,none⟩) hbb).trans k1;have g2:=(hbw.cell (p:=⟨b,off+i*4+2,none⟩) hbb).trans k2;have g3:=(hbw.cell (p:=⟨b,off+i*4+3,none⟩) hbb).trans k3;have hsz:=strOf_size tv.data;have C:=fun W=>crneed_any (tv.data.length:Int) W
    rw[hN0] at C;have iw3:IntKind.i64.wrap (((1+S0:Nat):Int)+(N0:Int))=((1+(S0+N0):Nat):Int):=by simp[IntKind.wrap,IntKind.signed,IntKind.bits];omega
    have q1:decide ((i:Int)<(l.length:Int))=true:=decide_eq_true (by omega);have q2:decide (i<l.length)=true:=decide_eq_true hlt;obtain⟨wc,hwc⟩:∃x,x=wr.alloc (.cells #[.string (strOf key),.string (strOf tv.data),.slice pa 0 pc,.slice ka kn kc] 145):=⟨_,rfl⟩
    have hbc:Below wr.heap.size wr wc:=by rw[hwc];exact Below.al (Below.refl _ _)
    have hxc:Boxes wc [(wr.heap.size,[.string (strOf key),.string (strOf tv.data),.slice pa 0 pc,.slice ka kn kc])]:=by rw[hwc];exact(Boxes.nil wr).alloc #[.string (strOf key),.string (strOf tv.data),.slice pa 0 pc,.slice ka kn kc] 145 rfl
    have hx2:=hx.step hbc;have e1:=hx2.cell 0 1 rfl rfl;have e2:=hxc.cell 0 2 rfl rfl;have e3:=hxc.cell 0 1 rfl rfl;have HBW:=Hd (hbw.trans (hbc.mono hbw.size));have HX:=Hd hx2;have HWC:=Hd hwc;have HS1:=Hd hS1;clear hbw hx hx2 hbc hxc hwc hS0 hN0 hS1 hS9 hm hrow hpg hy hx1 k0 k1 k2 k3;go_upto_region 8 with(fail)
    rw[←HWC.out];go_wp2_with fail;refine(C _).mono ?_;rintro e wx ⟨rfl,rfl⟩;go_wp2_with fail;go_roundw
    case rel=>exact⟨i+1,hlt,by go_num,by rw[HS1.out];go_num,HBW.out,HX.out⟩
    case measure=>simp[intOf];omega
   ·have hin:i=l.length:=by omega
    have q1:decide ((i:Int)<(l.length:Int))=false:=decide_eq_false (by omega);have q2:decide (i<l.length)=false:=decide_eq_false hlt;have hm:=HM.out;have hfin:((1+((l.take i).map fun c=>needC c.2.data.length).sum:Nat):Int)=(m:Int):=by rw[hin,List.take_length,hm]
    rw[hfin];have HBW:=Hd hbw;clear hbw hx hfin hm hin;go_wp2_with fail;go_ret;exact⟨rfl,HBW.out⟩
theorem rfresh_node {n:Nat} (IH:∀{F:Nat→Prop} {w:World} {cs:List Value} {t:Tr},RNodeOn F n w cs t→Bare t→Bnd n t→freshN n t≤1000000→Calls Tryz.prog 43 #[.agg cs.toArray] w fun e w'=>e=.returned (.int .i64 (freshN n t:Nat))∧Below w.heap.size w w') {F:Nat→Prop} {w:World} {cs:List Value} {p:Int} {l:List (List UInt8×Tr)} (h:RNodeOn F (n+1) w cs (.node p l)) (hB:Bare (.node p l)) (hb:Bnd (n+1) (.node p l)) (hf:freshN (n+1) (.node p l)≤1000000) :
 Calls Tryz.prog 43 #[.agg cs.toArray] w fun e w'=>e=.returned (.int .i64 (freshN (n+1) (.node p l):Nat))∧Below w.heap.size w w':=by
 obtain⟨rfl,hv⟩:=bare_kids hB;obtain⟨a,c,rfl,h1,_⟩:=h.at;have hbl:l.length≤1000:=hb.1;have hbk:=hb.2;have hcn:cntT (.node 0 l)=l.length:=rfl;rw[hcn] at h1;obtain⟨wb,hwb⟩:∃x,w.alloc (.cells #[.int .i64 0,.bool false,.slice a l.length c] 27)=x:=⟨_,rfl⟩
 have hB0:Below w.heap.size w wb:=by rw[←hwb];exact Below.al (Below.refl _ _)
 have hX0:Boxes wb [(w.heap.size,[.int .i64 0,.bool false,.slice a l.length c])]:=by rw[←hwb];exact(Boxes.nil w).alloc #[.int .i64 0,.bool false,.slice a l.length c] 27 rfl
 have c0:=hX0.cell 0 0 rfl rfl;have c1:=hX0.cell 0 1 rfl rfl;have c2:=hX0.cell 0 2 rfl rfl;have HV:=Hd hv;have H1:=Hd h1;have HX0:=Hd hX0;have HB0:=Hd hB0;have HF:=Hd hf;show Calls _ _ #[.agg #[.int .i64 0,.bool false,.slice a l.length c]] _ _;obtain⟨m,hm⟩:∃m,freshN (n+1) (.node 0 l)=m:=⟨_,rfl⟩
 have hm2:m=1+(l.map fun c=>freshN n c.2).sum:=by rw[←hm,freshN]
 rw[hm] at hf;rw[hm];have HM:=Hd hm2;have HBK:=Hd hbk;clear h hB hb hv h1 hX0 hB0 hcn hm hm2 hbk;go_enter Tryz.func43,Tryz.ntmps43;go_wp2_with fail
 go_loopw [3,4,5] (fun s3 s4 _ wr=>∃i:Nat,i≤l.length∧s4=.int .i64 i∧s3=.int .i64 ((1+((l.take i).map fun c=>freshN n c.2).sum:Nat):Int)∧Below w.heap.size w wr∧Boxes wr [(w.heap.size,[.int .i64 0,.bool false,.slice a l.length c])]) (fun _ s _ _=>l.length-(intOf s).toNat)
 case atStart=>exact⟨0,Nat.zero_le _,rfl,rfl,HB0.out,HX0.out⟩
 case round=>
  obtain⟨i,hi,rfl,rfl,hbw,hx⟩:=hrel;have c0:=hx.cell 0 0 rfl rfl;have c1:=hx.cell 0 1 rfl rfl;have c2:=hx.cell 0 2 rfl rfl;have iw2:IntKind.i64.wrap ((i:Int)+1)=(i:Int)+1:=by simp[IntKind.wrap,IntKind.signed,IntKind.bits];omega
  by_cases hlt:i<l.length
  ·have H1L:TabR 4 (RcOn F n w) w a l.length c (cellsR (.node 0 l)):=H1.out
   obtain⟨b,off,y,pa,pn,pc,ka,kn,kc,rfl,hbb,hy,_,_,_,htk,_,k0,k1,k2,k3⟩:=RNodeOn.cell H1L hlt;rw[cellsR_node] at hy;obtain⟨x,hx1,hx2⟩:=Option.map_eq_some_iff.1 hy;subst hx2;obtain⟨key,kid⟩:=x;dsimp only at *;have hkb:Bare kid:=HV.out _ (List.mem_of_getElem? hx1);have hkm:=(HBK.out _ (List.mem_of_getElem? hx1)).2;obtain⟨b2,off2,y2,cs2,rfl,hb2,hy2,hl2,hon2,hcs2⟩:=TabR.at htk (k:=0) (by have h9:([kid]:List Tr).length=kn:=htk.1;simp at h9;omega);have hy3:y2=kid:=by simpa using hy2.symm
   subst hy3;obtain⟨ka',kn',kc',e9⟩:=RNodeOn.open_pos hon2;subst e9;have r0:=hcs2 0 _ rfl;have r1:=hcs2 1 _ rfl;have r2:=hcs2 2 _ rfl;simp only[Nat.zero_mul,Nat.add_zero] at r0 r1 r2;have hkn:0<kn:=by have h9:([y2]:List Tr).length=kn:=htk.1;simp at h9;omega
   obtain⟨S0,hS0⟩:∃x,((l.take i).map fun c=>freshN n c.2).sum=x:=⟨_,rfl⟩
   obtain⟨N0,hN0⟩:∃x,freshN n y2=x:=⟨_,rfl⟩
   have hS1:((l.take (i+1)).map fun c=>freshN n c.2).sum=S0+N0:=by rw[sum_take_succ _ hx1,hS0];exact congrArg _ hN0
   have hS9:=sum_take_le (fun c:List UInt8×Tr=>freshN n c.2) l (i+1);rw[hS1] at hS9;have hm:=HM.out;have hSm:1+S0+N0≤1000000:=by omega
   rw[hS0];have g0:=(hbw.cell (p:=⟨b,off+i*4,none⟩) hbb).trans k0;have g1:=(hbw.cell (p:=⟨b,off+i*4+1,none⟩) hbb).trans k1;have g2:=(hbw.cell (p:=⟨b,off+i*4+2,none⟩) hbb).trans k2;have g3:=(hbw.cell (p:=⟨b,off+i*4+3,none⟩) hbb).trans k3;have iw3:IntKind.i64.wrap (((1+S0:Nat):Int)+(N0:Int))=((1+(S0+N0):Nat):Int):=by simp[IntKind.wrap,IntKind.signed,IntKind.bits];omega
   have q1:decide ((i:Int)<(l.length:Int))=true:=decide_eq_true (by omega);have q2:decide (i<l.length)=true:=decide_eq_true hlt;obtain⟨wc,hwc⟩:∃x,x=wr.alloc (.cells #[.string (strOf key),.string (strOf []),.slice pa pn pc,.slice (some ⟨b2,off2,none⟩) kn kc] 145):=⟨_,rfl⟩
   have hbc:Below wr.heap.size wr wc:=by rw[hwc];exact Below.al (Below.refl _ _)
   have hxc:Boxes wc [(wr.heap.size,[.string (strOf key),.string (strOf []),.slice pa pn pc,.slice (some ⟨b2,off2,none⟩) kn kc])]:=by rw[hwc];exact(Boxes.nil wr).alloc #[.string (strOf key),.string (strOf []),.slice pa pn pc,.slice (some ⟨b2,off2,none⟩) kn kc] 145 rfl
   have hx2:=hx.step hbc;have e1:=hx2.cell 0 1 rfl rfl;have e2:=hxc.cell 0 2 rfl rfl;have e3:=hxc.cell 0 1 rfl rfl;have hbwc:=hbw.trans (hbc.mono hbw.size);have C:=IH (hon2.agree (AgreeF.of_below hbwc)) hkb hkm (by rw[hN0];omega);rw[hN0] at C;have s0:=(hbwc.cell (p:=⟨b2,off2,none⟩) hb2).trans r0;have s1:=(hbwc.cell (p:=⟨b2,off2+1,none⟩) hb2).trans r1;have s2:=(hbwc.cell (p:=⟨b2,off2+2,none⟩) hb2).trans r2;have e4:=hxc.cell 0 3 rfl rfl;have q5:decide ((0:Int)<(kn:Int))=true:=decide_eq_true (by omega);have q6:decide (0<kn)=true:=decide_eq_true hkn;have HBW:=Hd (hbw.trans (hbc.mono hbw.size));have HX:=Hd hx2;have HWC:=Hd hwc;have HS1:=Hd hS1;clear hbw hx hx2 hbc hxc hwc hS0 hN0 hS1 hS9 hm hy hy2 hx1 hon2 htk hkb hkm hcs2 hbwc r0 r1 r2 k0 k1 k2 k3;go_upto_region 8 with(fail)
   rw[←HWC.out];go_wp2_with fail;refine C.mono ?_;rintro e wx ⟨rfl,hbx⟩;have HB2:=Hd (HBW.out.trans (hbx.mono HBW.out.size));have HX2:=Hd (HX.out.step hbx);clear hbx;go_wp2_with fail;go_roundw
   case rel=>exact⟨i+1,hlt,by go_num,by rw[HS1.out];go_num,HB2.out,HX2.out⟩
   case measure=>simp[intOf];omega
  ·have hin:i=l.length:=by omega
   have q1:decide ((i:Int)<(l.length:Int))=false:=decide_eq_false (by omega);have q2:decide (i<l.length)=false:=decide_eq_false hlt;have hm:=HM.out;have hfin:((1+((l.take i).map fun c=>freshN n c.2).sum:Nat):Int)=(m:Int):=by rw[hin,List.take_length,hm]
   rw[hfin];have HBW:=Hd hbw;clear hbw hx hfin hm hin;go_wp2_with fail;go_ret;exact⟨rfl,HBW.out⟩
theorem rfresh_any:∀{n:Nat} {F:Nat→Prop} {w:World} {cs:List Value} {t:Tr},RNodeOn F n w cs t→Bare t→Bnd n t→freshN n t≤1000000→Calls Tryz.prog 43 #[.agg cs.toArray] w fun e w'=>e=.returned (.int .i64 (freshN n t:Nat))∧Below w.heap.size w w'
 | 0,_,_,_,_,h,_,_,_=>h.elim
 | _n+1,_,_,_,.leaf _p _l,h,hB,hb,hf=>rfresh_leaf h hB hb hf
 | _n+1,_,_,_,.node _p _l,h,hB,hb,hf=>rfresh_node (fun h hB hb hf=>rfresh_any h hB hb hf) h hB hb hf
open Go.RowKit
theorem append_none (W:World) (pa:Option Addr) (pc:Nat):(Builtin.append_ #[35,35] 35 #[.slice none 0 0,.slice pa 0 pc]).run Tryz.prog W=.ok (.slice none 0 0) W:=by
 cases pa<;>kernel_rfl
theorem rall_leaf {n:Nat} {F:Nat→Prop} {w:World} {cs:List Value} {p:Int} {l:List (List UInt8×Tv)} (h:RNodeOn F (n+1) w cs (.leaf p l)) (hB:Bare (.leaf p l)) (hb:Bnd (n+1) (.leaf p l)) :
 Calls Tryz.prog 167 #[.agg cs.toArray] w fun e w'=>e=.returned (.slice none 0 0)∧Below w.heap.size w w':=by
 obtain⟨rfl,hv⟩:=bare_vals hB;obtain⟨a,c,rfl,h1,_⟩:=h.at;have hbl:l.length≤1000:=hb.1;have hcn:cntT (.leaf 0 l)=l.length:=rfl;rw[hcn] at h1;obtain⟨wb,hwb⟩:∃x,w.alloc (.cells #[.int .i64 0,.bool true,.slice a l.length c] 27)=x:=⟨_,rfl⟩
 have hB0:Below w.heap.size w wb:=by rw[←hwb];exact Below.al (Below.refl _ _)
 have hX0:Boxes wb [(w.heap.size,[.int .i64 0,.bool true,.slice a l.length c])]:=by rw[←hwb];exact(Boxes.nil w).alloc #[.int .i64 0,.bool true,.slice a l.length c] 27 rfl
 have c0:=hX0.cell 0 0 rfl rfl;have HV:=Hd hv;have H1:=Hd h1;have HX0:=Hd hX0;have HB0:=Hd hB0;have HBD:=Hd hb;show Calls _ _ #[.agg #[.int .i64 0,.bool true,.slice a l.length c]] _ _;clear h hB hb hv h1 hX0 hB0 hcn;go_enter Tryz.func167,Tryz.ntmps167;go_wp2_with fail
 go_loopw [3,4] (fun s3 s4 wr=>∃i:Nat,i≤l.length∧s4=.int .i64 i∧s3=.slice none 0 0∧Below w.heap.size w wr∧Boxes wr [(w.heap.size,[.int .i64 0,.bool true,.slice a l.length c])]) (fun _ s _=>l.length-(intOf s).toNat)
 case atStart=>exact⟨0,Nat.zero_le _,rfl,rfl,HB0.out,HX0.out⟩
 case round=>
  obtain⟨i,hi,rfl,rfl,hbw,hx⟩:=hrel;have c0:=hx.cell 0 0 rfl rfl;have c1:=hx.cell 0 1 rfl rfl;have c2:=hx.cell 0 2 rfl rfl;have iw2:IntKind.i64.wrap ((i:Int)+1)=(i:Int)+1:=by simp[IntKind.wrap,IntKind.signed,IntKind.bits];omega
  by_cases hlt:i<l.length
  ·have H1L:TabR 4 (RcOn F n w) w a l.length c (cellsR (.leaf 0 l)):=H1.out
   obtain⟨b,off,y,pa,pn,pc,ka,kn,kc,rfl,hbb,hy,_,hrow,_,htk,_,k0,k1,k2,k3⟩:=RNodeOn.cell H1L hlt;rw[cellsR_leaf] at hy;obtain⟨x,hx1,hx2⟩:=Option.map_eq_some_iff.1 hy;subst hx2;obtain⟨key,tv⟩:=x;dsimp only at *;have hpg:tv.pages=[]:=HV.out _ (List.mem_of_getElem? hx1);rw[hpg] at hrow;have hpn:pn=0:=hrow.1.symm;subst hpn;have hpc:pc≤9223372036854775807:=by have:=hrow.2.2.1;unfold maxLen at this;omega
   have g2:=(hbw.cell (p:=⟨b,off+i*4+2,none⟩) hbb).trans k2;have q1:decide ((i:Int)<(l.length:Int))=true:=decide_eq_true (by omega);have q2:decide (i<l.length)=true:=decide_eq_true hlt;have HBW:=Hd hbw;have HX:=Hd hx;clear hbw hx hrow hy hx1 htk k0 k1 k2 k3 hpg
   go_wp2_with (at_builtin;refine wpList_append_run rfl _ _ _ _ rfl rfl rfl (append_none _ _ _) ?_)
   go_roundw
   case rel=>exact⟨i+1,hlt,by go_num,rfl,HBW.out,HX.out⟩
   case measure=>simp[intOf];omega
  ·have q1:decide ((i:Int)<(l.length:Int))=false:=decide_eq_false (by omega)
   have q2:decide (i<l.length)=false:=decide_eq_false hlt;have HBW:=Hd hbw;clear hbw hx;go_wp2_with fail;go_ret;exact⟨rfl,HBW.out⟩
theorem rall_node {n:Nat} (IH:∀{F:Nat→Prop} {w:World} {cs:List Value} {t:Tr},RNodeOn F n w cs t→Bare t→Bnd n t→Calls Tryz.prog 167 #[.agg cs.toArray] w fun e w'=>e=.returned (.slice none 0 0)∧Below w.heap.size w w') {F:Nat→Prop} {w:World} {cs:List Value} {p:Int} {l:List (List UInt8×Tr)} (h:RNodeOn F (n+1) w cs (.node p l)) (hB:Bare (.node p l)) (hb:Bnd (n+1) (.node p l)) :
 Calls Tryz.prog 167 #[.agg cs.toArray] w fun e w'=>e=.returned (.slice none 0 0)∧Below w.heap.size w w':=by
 obtain⟨rfl,hv⟩:=bare_kids hB;obtain⟨a,c,rfl,h1,_⟩:=h.at;have hbl:l.length≤1000:=hb.1;have hcn:cntT (.node 0 l)=l.length:=rfl;rw[hcn] at h1;obtain⟨wb,hwb⟩:∃x,w.alloc (.cells #[.int .i64 0,.bool false,.slice a l.length c] 27)=x:=⟨_,rfl⟩
 have hB0:Below w.heap.size w wb:=by rw[←hwb];exact Below.al (Below.refl _ _)
 have hX0:Boxes wb [(w.heap.size,[.int .i64 0,.bool false,.slice a l.length c])]:=by rw[←hwb];exact(Boxes.nil w).alloc #[.int .i64 0,.bool false,.slice a l.length c] 27 rfl
 have c0:=hX0.cell 0 0 rfl rfl;have HV:=Hd hv;have H1:=Hd h1;have HX0:=Hd hX0;have HB0:=Hd hB0;have HBD:=Hd hb;show Calls _ _ #[.agg #[.int .i64 0,.bool false,.slice a l.length c]] _ _;clear h hB hb hv h1 hX0 hB0 hcn;go_enter Tryz.func167,Tryz.ntmps167;go_wp2_with fail
 go_loopw [3,4] (fun s3 s4 wr=>∃i:Nat,i≤l.length∧s4=.int .i64 i∧s3=.slice none 0 0∧Below w.heap.size w wr∧Boxes wr [(w.heap.size,[.int .i64 0,.bool false,.slice a l.length c])]) (fun _ s _=>l.length-(intOf s).toNat)
 case atStart=>exact⟨0,Nat.zero_le _,rfl,rfl,HB0.out,HX0.out⟩
 case round=>
  obtain⟨i,hi,rfl,rfl,hbw,hx⟩:=hrel;have c0:=hx.cell 0 0 rfl rfl;have c1:=hx.cell 0 1 rfl rfl;have c2:=hx.cell 0 2 rfl rfl;have iw2:IntKind.i64.wrap ((i:Int)+1)=(i:Int)+1:=by simp[IntKind.wrap,IntKind.signed,IntKind.bits];omega
  by_cases hlt:i<l.length
  ·have H1L:TabR 4 (RcOn F n w) w a l.length c (cellsR (.node 0 l)):=H1.out
   obtain⟨b,off,y,pa,pn,pc,ka,kn,kc,rfl,hbb,hy,_,hrow,_,htk,_,k0,k1,k2,k3⟩:=RNodeOn.cell H1L hlt;rw[cellsR_node] at hy;obtain⟨x,hx1,hx2⟩:=Option.map_eq_some_iff.1 hy;subst hx2;obtain⟨key,tv⟩:=x;dsimp only at *;have hpn:pn=0:=hrow.1.symm;subst hpn;have hpc:pc≤9223372036854775807:=by have:=hrow.2.2.1;unfold maxLen at this;omega
   have g2:=(hbw.cell (p:=⟨b,off+i*4+2,none⟩) hbb).trans k2;have q1:decide ((i:Int)<(l.length:Int))=true:=decide_eq_true (by omega);have q2:decide (i<l.length)=true:=decide_eq_true hlt;have hkb:Bare tv:=HV.out _ (List.mem_of_getElem? hx1);have hkm:=(HBD.out.2 _ (List.mem_of_getElem? hx1)).2;obtain⟨b2,off2,y2,cs2,rfl,hb2,hy2,hl2,hon2,hcs2⟩:=TabR.at htk (k:=0) (by have h9:([tv]:List Tr).length=kn:=htk.1;simp at h9;omega);have hy3:y2=tv:=by simpa using hy2.symm
   subst hy3;obtain⟨ka',kn',kc',e9⟩:=RNodeOn.open_pos hon2;subst e9;have r0:=hcs2 0 _ rfl;have r1:=hcs2 1 _ rfl;have r2:=hcs2 2 _ rfl;simp only[Nat.zero_mul,Nat.add_zero] at r0 r1 r2;have hkn:0<kn:=by have h9:([y2]:List Tr).length=kn:=htk.1;simp at h9;omega
   have C:=IH (hon2.agree (AgreeF.of_below hbw)) hkb hkm;have s0:=(hbw.cell (p:=⟨b2,off2,none⟩) hb2).trans r0;have s1:=(hbw.cell (p:=⟨b2,off2+1,none⟩) hb2).trans r1;have s2:=(hbw.cell (p:=⟨b2,off2+2,none⟩) hb2).trans r2;have g3:=(hbw.cell (p:=⟨b,off+i*4+3,none⟩) hbb).trans k3;have q5:decide ((0:Int)<(kn:Int))=true:=decide_eq_true (by omega);have q6:decide (0<kn)=true:=decide_eq_true hkn;have HBW:=Hd hbw;have HX:=Hd hx;clear hbw hx hrow hy hx1 htk k0 k1 k2 k3 hy2 hon2 hkb hkm hcs2 r0 r1 r2
   go_wp2_with (at_builtin;refine wpList_append_run rfl _ _ _ _ rfl rfl rfl (append_none _ _ _) ?_)
   refine C.mono ?_;rintro e wx ⟨rfl,hbx⟩;have HB2:=Hd (HBW.out.trans (hbx.mono HBW.out.size));have HX2:=Hd (HX.out.step hbx);clear hbx
   go_wp2_with (at_builtin;refine wpList_append_run rfl _ _ _ _ rfl rfl rfl (append_none _ _ _) ?_)
   go_roundw
   case rel=>exact⟨i+1,hlt,by go_num,rfl,HB2.out,HX2.out⟩
   case measure=>simp[intOf];omega
  ·have q1:decide ((i:Int)<(l.length:Int))=false:=decide_eq_false (by omega)
   have q2:decide (i<l.length)=false:=decide_eq_false hlt;have HBW:=Hd hbw;clear hbw hx;go_wp2_with fail;go_ret;exact⟨rfl,HBW.out⟩
theorem rall_any:∀{n:Nat} {F:Nat→Prop} {w:World} {cs:List Value} {t:Tr},RNodeOn F n w cs t→Bare t→Bnd n t→Calls Tryz.prog 167 #[.agg cs.toArray] w fun e w'=>e=.returned (.slice none 0 0)∧Below w.heap.size w w'
 | 0,_,_,_,_,h,_,_=>h.elim
 | _n+1,_,_,_,.leaf _p _l,h,hB,hb=>rall_leaf h hB hb
 | _n+1,_,_,_,.node _p _l,h,hB,hb=>rall_node (fun h hB hb=>rall_any h hB hb) h hB hb
open Go.RowKit
def Rises (l:List Int):Prop:=∀(i j:Nat) (x y:Int),i<j→l[i]? = some x→l[j]? = some y→x<y
theorem infoI:(Tryz.prog.info? 3).map (fun i=>(i.zero,i.size,i.bytes))=some (some (.int .i64 0),1,8):=by kernel_rfl
theorem sorted_any {w:World} {a:Option Addr} {n cap:Nat} {l:List Int} (h:Row .i64 w a n cap l) (hr:Rises l) (hn:n≤100000) :
 Calls Tryz.prog 131 #[.slice a n cap] w fun e w'=>∃v,e=.returned v∧w'.ownsRow w.heap.size 3 1 v n (l.map (Value.int .i64))∧Below w.heap.size w w':=by
 have hln:l.length=n:=h.1;have hcap:=h.2.2.1;have hncap:=h.2.1;unfold maxLen at hcap;have H:=Hd h;have HR:=Hd hr;have HLN:=Hd hln;obtain⟨i0,hi0,hz0,hz1,hz2⟩:=info_parts infoI;have HI:=Hd (show Tryz.prog.info? 3=some i0∧i0.zero=some (.int .i64 0)∧i0.size=1∧i0.bytes=8 from⟨hi0,hz0,hz1,hz2⟩);clear h hr hln hi0 hz0 hz1 hz2;go_enter Tryz.func131,Tryz.ntmps131;go_wp2_with fail
 go_loopw [3,4,5,6] (fun s3 s4 _ _ wr=>∃(i:Nat),i≤n∧s4=.int .i64 i∧wr.ownsRow w.heap.size 3 1 s3 i ((l.take i).map (Value.int .i64))∧Below w.heap.size w wr) (fun _ s _ _ _=>n-(intOf s).toNat)
 case atStart=>exact⟨0,Nat.zero_le _,rfl,own_nil w _ 1 _,Below.refl _ _⟩
 case round=>
  obtain⟨i,hi,rfl,hown,hbw⟩:=hrel;have iw2:IntKind.i64.wrap ((i:Int)+1)=(i:Int)+1:=by simp[IntKind.wrap,IntKind.signed,IntKind.bits];omega
  by_cases hlt:i<n
  ·obtain⟨b,off,rfl,hbl,hc⟩:=(H.out).2.2.2.2.resolve_left (by omega)
   obtain⟨x,hx⟩:∃x,l[i]? = some x:=⟨l[i]'(by have:=HLN.out;omega),by simp⟩
   have k0:=hc i hlt;rw[hx] at k0;have k0:w.cell? ⟨b,off+i,none⟩=some (.int .i64 x):=k0;obtain⟨av,cv,rfl,hic,hcm,_⟩:=own_slice hown;unfold maxLen at hcm;obtain⟨a',c',e',hrow⟩:=Row.of_own hown;cases e';have gx:∀W,Below wr.heap.size wr W→W.cell? ⟨b,off+i,none⟩=some (.int .i64 x):=fun W hW=>(hW.cell (p:=⟨b,off+i,none⟩) (Nat.lt_of_lt_of_le hbl hbw.size)).trans ((hbw.cell (p:=⟨b,off+i,none⟩) hbl).trans k0)
   have q1:decide ((i:Int)<(n:Int))=true:=decide_eq_true (by omega);have q2:decide (i<n)=true:=decide_eq_true hlt;have HOWN:=Hd hown;have HBW:=Hd hbw;have HROW:=Hd hrow;have HX:=Hd hx;have HK0:=Hd k0;clear hown hbw hrow hx k0 hc;go_wp2_with fail
   go_loopw [5] (fun s5 wx=>∃j:Nat,j≤i∧s5=.int .i64 j∧∃q,wx=wr.drewN q) (fun s _=>i-(intOf s).toNat)
   case atStart=>exact⟨0,Nat.zero_le _,rfl,0,rfl⟩
   case round=>
    obtain⟨j,hj,rfl,q,rfl⟩:=hrel;have hbx:Below wr.heap.size wr (wr.drewN q):=below_drewN (Below.refl _ _) q;have iw3:IntKind.i64.wrap ((j:Int)+1)=(j:Int)+1:=by simp[IntKind.wrap,IntKind.signed,IntKind.bits];omega
    by_cases hji:j<i
    ·obtain⟨b2,off2,rfl,hb2,hc2⟩:=HROW.out.2.2.2.2.resolve_left (by omega)
     obtain⟨y,hy⟩:∃y,l[j]? = some y:=⟨l[j]'(by have:=HLN.out;omega),by simp⟩
     have m0:=hc2 j hji;rw[List.getElem?_take_of_lt hji,hy] at m0;have m0:wr.cell? ⟨b2,off2+j,none⟩=some (.int .i64 y):=m0;have hyx:=HR.out j i y x hji hy HX.out;have g0:wr.cell? ⟨b,off+i,none⟩=some (.int .i64 x):=gx _ (Below.refl _ _);have q3:decide ((j:Int)<(i:Int))=true:=decide_eq_true (by omega);have q4:decide (j<i)=true:=decide_eq_true hji;have q5:decide (y≤x)=true:=decide_eq_true (by omega);have HBX:=Hd hbx;clear hbx hy hc2;go_wp2_with fail
     go_quiet (fail)
     go_wp2
     go_roundw
     case rel=>exact⟨j+1,by omega,by go_num,q+nq,rfl⟩
     case measure=>simp[intOf];omega
    ·have hij:j=i:=by omega
     subst hij;have q3:decide ((j:Int)<(j:Int))=false:=decide_eq_false (by omega);have q4:decide (j<j)=false:=decide_eq_false (by omega);clear hbx;go_wp2_with fail
     go_quiet (fail)
     have hbW:Below wr.heap.size wr ((wr.drewN q).drewN nq):=below_drewN (below_drewN (Below.refl _ _) q) nq;generalize (wr.drewN q).drewN nq=W at *;have hszW:=hbW.size;have hbwW:=HBW.out.trans (hbW.mono HBW.out.size);obtain⟨hi0,hz0,hz1,hz2⟩:=HI.out;obtain⟨v1,W1,hr1,ho1,hg1,hv1⟩:=run_append_row (P:=Tryz.prog) (w:=W) w.heap.size 35 3 i0 _ 8 Tryz.underlying35 hi0 hz0 hz1 hz2 rfl (own_nil W _ 1 _) (HROW.out.below (Nat.le_refl _) hbW) (by unfold maxLen;omega) (by omega) hbwW.size;simp only[List.nil_append,Nat.zero_add] at ho1;have hb1:Below w.heap.size w W1:=(hbwW).grown hg1 hbwW.size (fun k hk=>by cases hk);obtain⟨a1,c1,rfl,_⟩:=own_slice ho1;obtain⟨v2,W2,hr2,ho2,hg2,hv2⟩:=run_append_new (P:=Tryz.prog) (w:=W1) w.heap.size 35 3 i0 _ 1 8 Tryz.underlying35 hi0 hz0 hz1 hz2 rfl (by decide) ho1 #[.int .i64 x] rfl (by intro u hu;simp at hu;subst hu;rfl) (by unfold maxLen;omega) (by omega) hb1.size;have hb2:Below w.heap.size w W2:=hb1.grown hg2 hb1.size (own_ge ho1);obtain⟨a2,c2,rfl,_⟩:=own_slice ho2;obtain⟨a3,ha3,hsl⟩:=slice_from elem_intsC size_intsC av j cv j (Nat.le_refl _);simp only[Nat.sub_self] at hsl;have hr0:Row .i64 W2 a3 0 (cv-j) []:=⟨rfl,by omega,by unfold maxLen;omega,by
      have:=(Row.drop j (Nat.le_refl _) HROW.out).2.2.2.1;rw[ha3];simpa using this,.inl rfl⟩
     obtain⟨v3,W3,hr3,ho3,hg3,hv3⟩:=run_append_row (P:=Tryz.prog) (w:=W2) w.heap.size 35 3 i0 _ 8 Tryz.underlying35 hi0 hz0 hz1 hz2 rfl ho2 hr0 (by unfold maxLen;omega) (by omega) hb2.size;have hb3:Below w.heap.size w W3:=hb2.grown hg3 hb2.size (own_ge ho2);have g1:W1.cell? ⟨b,off+j,none⟩=some (.int .i64 x):=(hb1.cell (p:=⟨b,off+j,none⟩) hbl).trans HK0.out;have hfin:W3.ownsRow w.heap.size 3 1 v3 (j+1) ((l.take (j+1)).map (Value.int .i64)):=by
      have e:(l.take (j+1)).map (Value.int .i64)=(l.take j).map (Value.int .i64)++[Value.int .i64 x]:=by rw[List.take_succ_eq_append_of HX.out];simp
      rw[e];simpa using ho3
     have HFIN:=Hd hfin;have HB3:=Hd hb3;obtain⟨a4,c4,rfl,_⟩:=own_slice ho3;clear hbW hbwW ho1 hg1 hv1 hb1 ho2 hg2 hv2 hb2 ho3 hg3 hv3 hb3 hfin hi0 hz0 hz1 hz2 ha3 hr0;go_upto_region 10 with(at_builtin;refine wpList_append_run rfl _ _ _ _ rfl rfl rfl hr1 ?_)
     go_upto_region 11 with(at_builtin;refine wpList_append_run rfl _ _ _ _ rfl rfl rfl hr2 ?_)
     go_wp2_with (at_builtin;refine wpList_append_run rfl _ _ _ _ rfl rfl rfl hr3 ?_)
     exact⟨⟨j+1,hlt,by go_num,HFIN.out,HB3.out⟩,by simp[intOf];omega⟩
  ·have hin:i=n:=by omega
   subst hin;have q1:decide ((i:Int)<(i:Int))=false:=decide_eq_false (by omega);have q2:decide (i<i)=false:=decide_eq_false hlt;rw[List.take_of_length_le (by have:=HLN.out;omega)] at hown;have HOWN:=Hd hown;have HBW:=Hd hbw;clear hown hbw;go_wp2_with fail;go_ret;exact⟨_,rfl,HOWN.out,HBW.out⟩
open Go.RowKit
theorem Rises.nil:Rises []:=fun i j x y _ hi=>by simp at hi
theorem rpages_any {n:Nat} {F:Nat→Prop} {w:World} {cs:List Value} {t:Tr} (h:RNodeOn F n w cs t) (hB:Bare t) (hb:Bnd n t) :
 Calls Tryz.prog 130 #[.agg cs.toArray] w fun e w'=>∃a c,e=.returned (.slice a 0 c)∧Row .i64 w' a 0 c []∧Below w.heap.size w w':=by
 obtain⟨xa,xn,xc,rfl⟩:=RNodeOn.open_pos h;obtain⟨wb,hwb⟩:∃x,w.alloc (.cells #[.int .i64 t.page,.bool t.isLeaf,.slice xa xn xc] 27)=x:=⟨_,rfl⟩
 have hB0:Below w.heap.size w wb:=by rw[←hwb];exact Below.al (Below.refl _ _)
 have hX0:Boxes wb [(w.heap.size,[.int .i64 t.page,.bool t.isLeaf,.slice xa xn xc])]:=by rw[←hwb];exact(Boxes.nil w).alloc #[.int .i64 t.page,.bool t.isLeaf,.slice xa xn xc] 27 rfl
 have C:=rall_any (h.agree (AgreeF.of_below hB0)) hB hb;have c0:=hX0.cell 0 0 rfl rfl;have c1:=hX0.cell 0 1 rfl rfl;have c2:=hX0.cell 0 2 rfl rfl;have HB0:=Hd hB0;show Calls _ _ #[.agg #[.int .i64 t.page,.bool t.isLeaf,.slice xa xn xc]] _ _;generalize t.page=tp at *;generalize t.isLeaf=tl at *;clear h hB hb hB0 hX0;go_enter Tryz.func130,Tryz.ntmps130;go_wp2_with fail;refine C.mono ?_;rintro e w1 ⟨rfl,hb1⟩;have HB1:=Hd (HB0.out.trans (hb1.mono HB0.out.size));have S:=sorted_any (w:=w1) (a:=none) (n:=0) (cap:=0) (l:=[]) ⟨rfl,by simp,by unfold maxLen;omega,fun _=>rfl,.inl rfl⟩ Rises.nil (by omega);clear C hb1;go_wp2_with fail;refine S.mono ?_;rintro e w2 ⟨v,rfl,ho,hb2⟩;obtain⟨a,c,rfl,hrow⟩:=Row.of_own (l:=[]) ho;have HB2:=Hd (HB1.out.trans (hb2.mono HB1.out.size));have HROW:=Hd hrow;clear S hb2 ho hrow;go_wp2_with fail;go_ret;exact⟨a,c,rfl,HROW.out,HB2.out⟩
theorem rmay_any {n:Nat} {F:Nat→Prop} {w:World} {cs:List Value} {t:Tr} (h:RNodeOn F n w cs t) (hB:Bare t) (hb:Bnd n t) (hn:n≤1000) (hc:checkT n t=true) {a:Option Addr} {m cap:Nat} {at_:List Int} (hat:Row .i64 w a m cap at_) (hr:Rises at_) (hm:m≤10000) (hp:∀p∈at_,2≤p∧p≤999) (hf:freshN n t≤m) :
 Calls Tryz.prog 90 #[.agg cs.toArray,.slice a m cap] w fun e w'=>e=.returned (.bool true)∧Below w.heap.size w w':=by
 obtain⟨xa,xn,xc,rfl⟩:=RNodeOn.open_pos h;obtain⟨wb,hwb⟩:∃x,w.alloc (.cells #[.int .i64 t.page,.bool t.isLeaf,.slice xa xn xc] 27)=x:=⟨_,rfl⟩
 have hB0:Below w.heap.size w wb:=by rw[←hwb];exact Below.al (Below.refl _ _)
 have hX0:Boxes wb [(w.heap.size,[.int .i64 t.page,.bool t.isLeaf,.slice xa xn xc])]:=by rw[←hwb];exact(Boxes.nil w).alloc #[.int .i64 t.page,.bool t.isLeaf,.slice xa xn xc] 27 rfl
 obtain⟨i0,hi0,hz0,hz1,hz2⟩:=info_parts infoI;have HSB:=Hd (show wb.heap.size=w.heap.size+1 by rw[←hwb];simp);have hmc:=hat.2.1;have hcm:=hat.2.2.1;unfold maxLen at hcm;obtain⟨v1,w1,hr1,ho1,hg1,hv1⟩:=run_append_row (P:=Tryz.prog) (w:=wb) wb.heap.size 35 3 i0 _ 8 Tryz.underlying35 hi0 hz0 hz1 hz2 rfl (own_nil wb _ 1 _) (hat.below (Nat.le_refl _) hB0) (by unfold maxLen;omega) (by omega) (Nat.le_refl _);simp only[List.nil_append,Nat.zero_add] at ho1;obtain⟨a1,c1',rfl,_⟩:=own_slice ho1;have hb1:Below w.heap.size w w1:=hB0.grown hg1 hB0.size (fun k hk=>by cases hk);have hx1:=hX0.grown hg1 (by intro q hq e;cases e);have e0:=hx1.cell 0 0 rfl rfl;have e1:=hx1.cell 0 1 rfl rfl;have e2:=hx1.cell 0 2 rfl rfl;have C:=rpages_any (h.agree (AgreeF.of_below hb1)) hB hb;have H:=Hd h;have HX1:=Hd hx1;have HB1:=Hd hb1;have HO1:=Hd ho1;have HI:=Hd (show Tryz.prog.info? 3=some i0∧i0.zero=some (.int .i64 0)∧i0.size=1∧i0.bytes=8 from⟨hi0,hz0,hz1,hz2⟩);have HR:=Hd hr;have HP:=Hd hp;have HBR:=Hd hB;have HBD:=Hd hb;have HC:=Hd hc;have HF:=Hd hf;have HLM:=Hd (show at_.length=m from hat.1);show Calls _ _ #[.agg #[.int .i64 t.page,.bool t.isLeaf,.slice xa xn xc],.slice a m cap] _ _;obtain⟨tp,htp⟩:∃x,t.page=x:=⟨_,rfl⟩
 obtain⟨tl,htl⟩:∃x,t.isLeaf=x:=⟨_,rfl⟩
 simp only[htp,htl] at *;clear h hB hb hc hr hp hf hB0 hX0 ho1 hg1 hv1 hb1 hx1 hat hi0 hz0 hz1 hz2 htp htl;go_enter Tryz.func90,Tryz.ntmps90;go_upto_region 3 with(at_builtin;refine wpList_append_run rfl _ _ _ _ rfl rfl rfl hr1 ?_)
 go_wp2_with fail;refine C.mono ?_;rintro e w2 ⟨a2,c2',rfl,hrow2,hb2⟩;have hb2w:=HB1.out.trans (hb2.mono HB1.out.size);obtain⟨hi0,hz0,hz1,hz2⟩:=HI.out;have hsb:=HSB.out;have hb1s:=HB1.out.size;have hbs2:wb.heap.size≤w2.heap.size:=by have:=hb2.size;have:=HX1.out.lt 0 rfl;have h8:w.heap.size<w1.heap.size:=this;omega
 obtain⟨v3,w3,hr3,ho3,hg3,hv3⟩:=run_append_row (P:=Tryz.prog) (w:=w2) wb.heap.size 35 3 i0 _ 8 Tryz.underlying35 hi0 hz0 hz1 hz2 rfl (own_held HO1.out hb2) hrow2 (by unfold maxLen;omega) (by omega) hbs2;simp only[Nat.add_zero,List.map_nil,List.append_nil] at ho3;obtain⟨a3,c3,rfl,_⟩:=own_slice ho3;have hge1:∀k,(Value.slice a1 m c1').ownBlock=some k→w.heap.size+1≤k:=fun k hk=>by have:=own_ge HO1.out k hk;omega
 have hb3:Below w.heap.size w w3:=hb2w.grown hg3 hb2w.size (fun k hk=>by have:=hge1 k hk;omega);have hx3:=(HX1.out.step hb2).grown hg3 (by intro q hq e;simp at hq;subst hq;have h8:w.heap.size+1≤w.heap.size:=hge1 _ e;omega);obtain⟨a',c',e',hrow3⟩:=Row.of_own ho3;cases e';have S:=sorted_any hrow3 HR.out (by omega);have HB3:=Hd hb3;have HX3:=Hd hx3;clear hi0 hz0 hz1 hz2 ho3 hg3 hv3 hb3 hx3 hrow3 hb2 hrow2 hb2w C hbs2 hge1 hsb;go_upto_region 4 with(at_builtin;refine wpList_append_run rfl _ _ _ _ rfl rfl rfl hr3 ?_)
 go_wp2_with fail;refine S.mono ?_;rintro e w4 ⟨v4,rfl,ho4,hb4⟩;obtain⟨a4,c4,rfl,hrow4⟩:=Row.of_own ho4;have HB4:=Hd (HB3.out.trans (hb4.mono HB3.out.size));have HX4:=Hd (HX3.out.step hb4);have HROW4:=Hd hrow4;have hc4:=hrow4.2.1;have hc4m:=hrow4.2.2.1;unfold maxLen at hc4m;clear S ho4 hb4 hrow4;go_wp2_with fail
 go_loopw [7] (fun s7 wx=>∃i:Nat,i≤m∧s7=.int .i64 i∧∃q,wx=w4.drewN q) (fun s _=>m-(intOf s).toNat)
 case atStart=>exact⟨0,Nat.zero_le _,rfl,0,rfl⟩
 case round=>
  obtain⟨i,hi,rfl,q,rfl⟩:=hrel;have iw2:IntKind.i64.wrap ((i:Int)+1)=(i:Int)+1:=by simp[IntKind.wrap,IntKind.signed,IntKind.bits];omega
  by_cases hlt:i<m
  ·obtain⟨b,off,rfl,hbl,hcc⟩:=HROW4.out.2.2.2.2.resolve_left (by omega)
   obtain⟨x,hx⟩:∃x,at_[i]? = some x:=⟨at_[i]'(by have:=HLM.out;omega),by simp⟩
   have k0:=hcc i hlt;rw[hx] at k0;have k0:w4.cell? ⟨b,off+i,none⟩=some (.int .i64 x):=k0;have hpx:=HP.out x (List.mem_of_getElem? hx);have d1:decide (x<2)=false:=decide_eq_false (by omega);have d2:decide (999<x)=false:=decide_eq_false (by omega);have q1:decide ((i:Int)<(m:Int))=true:=decide_eq_true (by omega);have q2:decide (i<m)=true:=decide_eq_true hlt
   by_cases hi0:i=0
   ·subst hi0
    have q3:decide ((0:Int)<((0:Nat):Int))=false:=by decide
    rw[Nat.add_zero] at k0;have q5:decide ((0:Int)<(m:Int))=true:=decide_eq_true (by omega);have q6:decide (0<m)=true:=decide_eq_true hlt;clear hcc hx;go_wp2_with fail
    go_quiet (fail)
    go_wp2
    go_roundw
    case rel=>exact⟨1,by omega,rfl,q+nq,rfl⟩
    case measure=>simp[intOf];omega
   ·obtain⟨y,hy⟩:∃y,at_[i-1]? = some y:=⟨at_[i-1]'(by have:=HLM.out;omega),by simp⟩
    have k1:=hcc (i-1) (by omega);rw[hy] at k1;have k1:w4.cell? ⟨b,off+(i-1),none⟩=some (.int .i64 y):=k1;have hyx:=HR.out (i-1) i y x (by omega) hy hx;have d3:(x == y)=false:=by simp;omega
    have q3:decide ((0:Int)<(i:Int))=true:=decide_eq_true (by omega);have q3':decide (0<i)=true:=decide_eq_true (by omega);have iw3:IntKind.i64.wrap ((i:Int)-1)=(i:Int)-1:=by simp[IntKind.wrap,IntKind.signed,IntKind.bits];omega
    have t1:((i:Int)-1).toNat=i-1:=by omega
    have t2:decide ((0:Int)≤(i:Int)-1)=true:=decide_eq_true (by omega);have t3:decide ((i:Int)-1<(m:Int))=true:=decide_eq_true (by omega);have t4:(0:Int)≤(i:Int)-1:=by omega
    have t5:(i:Int)-1<(m:Int):=by omega
    clear hcc hx hy;go_wp2_with fail
    go_quiet (fail)
    go_wp2
    go_roundw
    case rel=>exact⟨i+1,by omega,by go_num,q+nq,rfl⟩
    case measure=>simp[intOf];omega
  ·have q1:decide ((i:Int)<(m:Int))=false:=decide_eq_false (by omega)
   have q2:decide (i<m)=false:=decide_eq_false hlt;have hbq:Below w4.heap.size w4 (w4.drewN q):=below_drewN (Below.refl _ _) q;have hBq:=HB4.out.trans (hbq.mono HB4.out.size);have hXq:=HX4.out.step hbq;generalize w4.drewN q=W at *;have c0:=hXq.cell 0 0 rfl rfl;have c1:=hXq.cell 0 1 rfl rfl;have c2:=hXq.cell 0 2 rfl rfl;have C1:=rcheck_any (H.out.agree (AgreeF.of_below hBq)) HBD.out hn;rw[HC.out] at C1;have HBq:=Hd hBq;have HXq:=Hd hXq;clear hBq hXq hbq;go_wp2_with fail;refine C1.mono ?_;rintro e w5 ⟨rfl,hb5⟩;have hB5:=HBq.out.trans (hb5.mono HBq.out.size);have hX5:=HXq.out.step hb5;have e0:=hX5.cell 0 0 rfl rfl;have e1:=hX5.cell 0 1 rfl rfl;have e2:=hX5.cell 0 2 rfl rfl;have C2:=rfresh_any (H.out.agree (AgreeF.of_below hB5)) HBR.out HBD.out (by have:=HF.out;omega);have q5:decide (((freshN n t:Nat):Int)≤(m:Int))=true:=decide_eq_true (by have:=HF.out;omega);have q6:decide (freshN n t≤m)=true:=decide_eq_true HF.out;have HB5:=Hd hB5;clear hB5 hX5 hb5 C1;go_wp2_with fail;refine C2.mono ?_;rintro e w6 ⟨rfl,hb6⟩;have HB6:=Hd (HB5.out.trans (hb6.mono HB5.out.size));clear hb6 C2;go_wp2_with fail;go_ret;exact⟨rfl,HB6.out⟩
open Go.RowKit
def wcl (x:Wr):List Value:=[.int .i64 x.1,.string (strOf x.2)]
structure LyIn (F:Nat→Prop) (w:World) (sb:Nat) (vL:Value) (ws:List Wr) (la:Option Addr) (lc:Nat) (left:List Int):Prop where
 box:Boxes w [(sb,[vL,.slice la left.length lc])]
 own:w.ownsRow (sb+1) 41 2 vL ws.length (ws.flatMap wcl)
 row:Row .i64 w la left.length lc left
 lf:∀x,la=some x→F x.block
 fb:∀b,F b→b<sb
section
variable {F:Nat→Prop} {w w':World} {sb:Nat} {vL:Value} {ws:List Wr} {la:Option Addr} {lc:Nat} {left:List Int}
theorem LyIn.lt_ (h:LyIn F w sb vL ws la lc left) (x:Addr) (hx:la=some x):x.block<sb:=h.fb _ (h.lf x hx)
theorem LyIn.lt (h:LyIn F w sb vL ws la lc left):sb<w.heap.size:=h.box.lt 0 rfl
theorem LyIn.ge (h:LyIn F w sb vL ws la lc left) {k:Nat} (hk:vL.ownBlock=some k):sb+1≤k∧k<w.heap.size:=World.ownsRow.lt h.own k hk
theorem LyIn.below (h:LyIn F w sb vL ws la lc left) (hb:Below w.heap.size w w'):LyIn F w' sb vL ws la lc left:=
 ⟨h.box.step hb,own_held h.own hb,h.row.below (Nat.le_refl _) hb,h.lf,h.fb⟩
theorem LyIn.only {S:List Nat} (h:LyIn F w sb vL ws la lc left) (ho:Only S w w') (hS:∀k∈S,sb<k∧vL.ownBlock≠some k):LyIn F w' sb vL ws la lc left:=by
 refine⟨h.box.only ho (by intro q hq hk;simp at hq;subst hq;have:=(hS _ hk).1;simp at this),own_only h.own ho (fun k hk hk2=>(hS k hk2).2 hk),?_,h.lf,h.fb⟩;obtain⟨h1,h2,h3,h4,h5⟩:=h.row;have hs:=ho.size;refine⟨h1,h2,h3,h4,h5.imp id ?_⟩;rintro⟨b,off,e,hb,hc⟩;have hlt:=h.lt_ _ e;exact⟨b,off,e,by omega,fun i hi=>(show w'.cell? ⟨b,off+i,none⟩=w.cell? ⟨b,off+i,none⟩ from World.cell?_of_block (ho.block (k:=b) hb (fun hk=>by have:=(hS _ hk).1;have h9:b<sb:=hlt;omega))).trans (hc i hi)⟩
end
theorem lsome_any {F:Nat→Prop} {w:World} {sb:Nat} {vL:Value} {ws:List Wr} {la:Option Addr} {lc:Nat} {left:List Int} (h:LyIn F w sb vL ws la lc left) (n:Nat) (hn:n≤left.length) :
 Calls Tryz.prog 134 #[.pointer (some ⟨sb,0,none⟩),.int .i64 n] w fun e w'=>e=.returned (.slice la n lc)∧∃la',LyIn F w' sb vL ws la' (lc-n) (left.drop n)∧Only [sb] w w':=by
 obtain⟨a2,ha2,hsl⟩:=slice_from elem_intsC size_intsC la left.length lc n hn;have hlc:=h.row.2.1;have hlm:=h.row.2.2.1;unfold maxLen at hlm;have b1:=h.box.cell 0 1 rfl rfl;have f1:=h.box.frozen 0 1 rfl;have hd:=Row.drop n hn h.row;rw[←ha2] at hd;have hlen:(left.drop n).length=left.length-n:=by simp
 have q1:decide ((0:Int)≤(n:Int))=true:=decide_eq_true (by omega);have q2:decide ((n:Int)≤(lc:Int))=true:=decide_eq_true (by omega);have HE:Hid (∃la',LyIn F (w.setCell ⟨sb,1,none⟩ (.slice a2 (left.length-n) (lc-n))) sb vL ws la' (lc-n) (left.drop n)∧Only [sb] w (w.setCell ⟨sb,1,none⟩ (.slice a2 (left.length-n) (lc-n)))):=Hd (by
  have ho:Only [sb] w (w.setCell ⟨sb,1,none⟩ (.slice a2 (left.length-n) (lc-n))):=(Only.refl _ _).set _ _ (by simp);have hlt3:∀x,a2=some x→F x.block:=fun x ex=>by
   rw[ha2] at ex
   split at ex
   ·exact h.lf x ex
   ·obtain⟨y,hy,e⟩:=Option.map_eq_some_iff.1 ex
    rw[←e];have h9:=h.lf y hy;have e9:(y.add (n*1)).block=y.block:=by unfold Addr.add;split<;>rfl
    rw[e9];exact h9
  have hlt2:∀x,a2=some x→x.block<sb:=fun x ex=>h.fb _ (hlt3 x ex)
  refine⟨a2,⟨?_,own_set h.own ⟨sb,1,none⟩ _ (fun e=>by have:=(h.ge e).1;simp at this;omega),?_,hlt3,h.fb⟩,ho⟩
  ·rw[hlen]
   exact h.box.put 1 _ (by intro q hq;simp at hq)
  ·rw[hlen]
   exact row_at hd ho.size (fun x ex=>Below.heap_setCell _ _ _ x.block (fun e=>by have:=hlt2 x ex;have e:x.block=sb:=e;omega)))
 clear h hd hlen ha2;go_enter Tryz.func134,Tryz.ntmps134;go_wp2_with fail;go_ret;exact⟨rfl,HE.out⟩
theorem infoW:(Tryz.prog.info? 41).map (fun i=>(i.zero,i.size,i.bytes))=some (some (.agg #[.int .i64 0,.string ⟨#[]⟩]),2,24):=by kernel_rfl
theorem lwrite_any {F:Nat→Prop} {w:World} {sb:Nat} {vL:Value} {ws:List Wr} {la:Option Addr} {lc:Nat} {left:List Int} (h:LyIn F w sb vL ws la lc left) (hl:ws.length≤100000) (p:Int) (b:List UInt8) :
 Calls Tryz.prog 136 #[.pointer (some ⟨sb,0,none⟩),.int .i64 p,.string (strOf b)] w fun e w'=>e=.returned (.tuple #[])∧∃vL',LyIn F w' sb vL' (ws++[(p,b)]) la lc left∧Only (RS sb vL) w w'∧Turn w vL vL':=by
 obtain⟨i0,hi0,hz0,hz1,hz2⟩:=info_parts infoW;obtain⟨v',w1,hr1,ho1,hg1,hv1⟩:=run_append_new (P:=Tryz.prog) (w:=w) (sb+1) 28 41 i0 _ 2 24 Tryz.underlying28 hi0 hz0 hz1 hz2 rfl (by decide) h.own #[.int .i64 p,.string (strOf b)] rfl (by intro u hu;simp at hu;rcases hu with rfl|rfl<;>rfl) (by unfold maxLen;omega) (by omega) (by have:=h.lt;omega);obtain⟨av,cv,rfl,_⟩:=own_slice h.own;obtain⟨a1,c1,rfl,_⟩:=own_slice ho1;have b0:=h.box.cell 0 0 rfl rfl;have hlt:=h.lt;have hgb:∀k,(Value.slice av ws.length cv).ownBlock=some k→sb+1≤k∧k<w.heap.size:=fun k hk=>h.ge hk
 have hx1:Boxes w1 [(sb,[.slice av ws.length cv,.slice la left.length lc])]:=h.box.grown hg1 (by intro q hq e;simp at hq;subst hq;have h8:sb+1≤sb:=(hgb _ e).1;omega);have k0:=hx1.cell 0 0 rfl rfl;have u0:=hx1.frozen 0 0 rfl;have hn':(Value.slice a1 (ws.length+1) c1).ownBlock≠some sb:=fun e=>by have:=own_ge ho1 _ e;omega
 have HE:Hid (∃vL',LyIn F (w1.setCell ⟨sb,0,none⟩ (.slice a1 (ws.length+1) c1)) sb vL' (ws++[(p,b)]) la lc left∧Only (RS sb (.slice av ws.length cv)) w (w1.setCell ⟨sb,0,none⟩ (.slice a1 (ws.length+1) c1))∧Turn w (.slice av ws.length cv) vL'):=Hd (by
  have hoB:Only (RS sb (.slice av ws.length cv)) w w1:=Only.of_grown hg1 (fun k hk=>.inl (RS.mem.2 (.inr hk)));have hoE:=hoB.set ⟨sb,0,none⟩ (.slice a1 (ws.length+1) c1) (RS.mem.2 (.inl rfl));refine⟨.slice a1 (ws.length+1) c1,⟨hx1.put 0 _ (by intro q hq;simp at hq),?_,?_,h.lf,h.fb⟩,hoE,?_⟩
  ·rw[List.length_append,List.flatMap_append]
   exact own_set ho1 ⟨sb,0,none⟩ _ hn'
  ·obtain⟨h1,h2,h3,h4,h5⟩:=h.row
   have hs:=hoE.size;refine⟨h1,h2,h3,h4,h5.imp id ?_⟩;rintro⟨b,off,e,hb,hc⟩;have hlt2:=h.lt_ _ e;exact⟨b,off,e,by omega,fun i hi=>(World.cell?_of_block (hoE.block (k:=b) hb (fun hk=>by
    have h9:b<sb:=hlt2
    rcases RS.mem.1 hk with e2|e2
    ·omega
    ·have:=(hgb _ e2).1;omega))).trans (hc i hi)⟩
  ·rcases hv1 with h|h
   ·exact .inl h
   ·exact .inr fun g e=>by rw[h] at e;have:=Option.some.inj e;omega)
 clear h hx1 hn' ho1 hg1 hv1 hgb hi0 hz0 hz1 hz2;go_enter Tryz.func136,Tryz.ntmps136
 go_wp2_with (at_builtin;refine wpList_append_run rfl _ _ _ _ rfl rfl rfl hr1 ?_)
 go_end0
 exact⟨rfl,HE.out⟩
open Go.RowKit
def RPutPostC (w:World) (v:List UInt8) (at_:List Int) (e:Ending) (w':World):Prop:=
 ∃u,e=.returned (.tuple #[u,.int .i64 (putEC v at_)])∧w'.ownsRow w.heap.size 9 1 u (putLC v at_).length ((putLC v at_).map sv)∧Below w.heap.size w w'
theorem rputPostC_bad {w w':World} {v:List UInt8} {at_:List Int} (h:putOkC v at_=false) (hb:Below w.heap.size w w'):RPutPostC w v at_ (.returned (.tuple #[.slice none 0 0,.int .i64 1])) w':=by
 refine⟨.slice none 0 0,by rw[putEC,h];rfl,?_,hb⟩;rw[putLC,h];exact World.ownsRow_nil _ _ _ _
theorem strsC_single (W:World) (s:List UInt8) (t:TypeId):Strs (W.alloc (.cells #[.string (strOf s)] t)) (some ⟨W.heap.size,0,none⟩) 1 1 [s]:=by
 refine⟨rfl,Nat.le_refl _,by unfold maxLen;omega,(fun h=>by cases h),.inr ⟨W.heap.size,0,rfl,by simp,fun i y hy=>?_⟩⟩;have hi:=(List.getElem?_eq_some_iff.1 hy).1;simp at hi;subst hi;simp at hy;subst hy;refine⟨[.string (strOf s)],rfl,rfl,fun j v hj=>?_⟩
 match j,hj with
 | 0,hj=>
  cases hj;have:=World.alloc_heap_new W (.cells #[.string (strOf s)] t);simp only[World.cell?,Nat.zero_add,Nat.zero_mul,this]
  rfl
 | j+1,hj=>simp at hj
def wordUC (n:Int):List UInt8:=numF (n % 18446744073709551616) 2
theorem wordUC_eq {n:Int} (h:0≤n∧n<65536):wordUC n=wordC n:=by
 unfold wordUC numF wordC;rw[if_neg (by omega),show n % 18446744073709551616=n by omega]
 rfl
theorem wordUC_length (n:Int):(wordUC n).length=2:=by
 unfold wordUC numF;rw[if_neg (by omega)];exact beBytes_length _ _
def rpageC (v:List UInt8) (at_:List Int) (i:Nat):List UInt8:=pageOf 3 [wordUC (nextC at_ i)++partC v i]
theorem rpageC_eq {v:List UInt8} {at_:List Int} (h:aptC at_=true) (i:Nat):rpageC v at_ i=pageC v at_ i:=by
 unfold rpageC pageC cellC;rw[wordUC_eq (nextC_lt h i)]
def aptCAt (at_:List Int) (i:Nat):Bool:=pgC (atC at_ i) && !(at_.take i).contains (atC at_ i)
theorem info_strC:(Tryz.prog.info? 9).map (fun i=>(i.zero,i.size,i.bytes))=some (some (.string ⟨#[]⟩),1,16):=by kernel_rfl
theorem crput_any {w:World} {a:Option Addr} {n cap:Nat} {at_:List Int} (h:Row .i64 w a n cap at_) (v:List UInt8) (hv:v.length≤100000) (hn9:n≤1000) :
 Calls Tryz.prog 168 #[.string (strOf v),.slice a n cap] w (RPutPostC w v at_):=by
 obtain⟨k0,hk,hx0,hx1,hx2⟩:=info_parts info_strC;have C:Calls Tryz.prog 89 #[.int .i64 (v.length:Int)] w fun e w'=>e=.returned (.int .i64 (needC (v.length:Int):Int))∧w=w':=crneed_any _ w
 obtain⟨e1,hc1,hcm1⟩:=h.lensC;have hsz:=strOf_size v;have hn4:=needC_le v.length;have hpos:=needC_pos (n:=(v.length:Int));have H1:=Hd h;have E1:=Hd e1;have HD:Hid (putOkC v at_=(decide (needC v.length≠0) && (decide (n=needC v.length) && aptC at_))):=Hd (by rw[putOkC,e1]);have hfit:needC (v.length:Int)≠0→119*(needC (v.length:Int)-1)<v.length∧v.length≤119*needC (v.length:Int):=fun h=>needC_fit h
 clear h e1;generalize needC (v.length:Int)=q at *
 by_cases h0:q=0
 ·have HB:Hid (putOkC v at_=false):=Hd (by rw[HD.out,h0];simp)
  have d0:((q:Int) == 0)=true:=by rw[beq_iff_eq];omega
  have d1:(q == 0)=true:=by simpa using h0
  exact qf7016b
 have d0:((q:Int) == 0)=false:=by rw[beq_eq_false_iff_ne];omega
 have d1:(q == 0)=false:=by simpa using h0
 by_cases hnq:¬n=q
 ·have HB:Hid (putOkC v at_=false):=Hd (by rw[HD.out];simp[hnq])
  have d2:((n:Int) != q)=true:=by rw[bne_iff_ne];omega
  have d3:((n:Int) == q)=false:=by rw[beq_eq_false_iff_ne];omega
  exact qf7016b
 obtain rfl:=Decidable.not_not.1 hnq;clear hnq;have hf:=hfit h0;have hp:=hpos h0;have d2:((n:Int) != n)=false:=by simp
 have d3:((n:Int) == n)=true:=by simp
 have HD2:Hid (putOkC v at_=aptC at_):=Hd (by rw[HD.out];simp[h0]);clear HD hfit hpos;go_enter Tryz.func168,Tryz.ntmps168;go_wp2_with fail;refine C.mono ?_;rintro e w' ⟨rfl,rfl⟩;clear C;go_wp2_with fail
 go_loopw [7,8] (fun s7 s wr=>∃(i:Nat),i≤n∧s=.int .i64 i∧wr.ownsRow w.heap.size 9 1 s7 i (((List.range i).map (rpageC v at_)).map sv)∧Below w.heap.size w wr∧∀j,j<i→aptCAt at_ j=true) (fun _ s _=>n-(intOf s).toNat)
 case atStart=>exact⟨0,Nat.zero_le _,rfl,World.ownsRow_nil _ _ _ _,Below.refl _ _,fun j hj=>by omega⟩
 case round=>
  obtain⟨i,hi',rfl,hout,hb,hall⟩:=hrel
  by_cases hlt:i<n
  ·obtain⟨b1,o1,hadr,hbl,hcell⟩:=H1.out.cellC hlt
   subst hadr;have c1:wr.cell? ⟨b1,o1+i,none⟩=_:=(hb.cell (p:=⟨b1,o1+i,none⟩) hbl).trans (hcell i hlt);have HAD:=Hd (show aptCAt at_ i=(pgC (atC at_ i) && !(at_.take i).contains (atC at_ i)) from rfl);have HF:Hid (aptCAt at_ i=false→aptC at_=false):=Hd (fun e=>by
    rw[aptC,List.all_eq_false];exact⟨i,by rw[List.mem_range,E1.out];exact hlt,by unfold aptCAt at e;rw[e];simp⟩)
   have HT:Hid (aptCAt at_ i=true→∀j,j<i+1→aptCAt at_ j=true):=Hd (fun e j hj=>by
    by_cases hji:j=i
    ·subst hji;exact e
    ·exact hall j (by omega))
   have HB:=Hd hb;have HO:=Hd hout;have HBAD:Hid (∀W,Below w.heap.size w W→aptCAt at_ i=false→RPutPostC w v at_ (.returned (.tuple #[.slice none 0 0,.int .i64 1])) W):=Hd (fun W hW h=>rputPostC_bad (by rw[HD2.out,HF.out h]) hW);have hrow1:=(H1.out.below (Nat.le_refl _) hb).take i (Nat.le_of_lt hlt);obtain⟨x,hx⟩:∃x,atC at_ i=x:=⟨_,rfl⟩
   rw[hx] at c1 HAD;obtain⟨t1,ht1⟩:∃t,decide (x∈at_.take i)=t:=⟨_,rfl⟩
   have hH1:∀k,Calls Tryz.prog 186 #[.slice (some ⟨b1,o1,none⟩) i cap,.int .i64 x] (wr.drewN k) fun e w'=>e=.returned (.bool t1)∧wr.drewN k=w':=fun k=>by
    have:=chas_any (hrow1.drewN k) x
    rwa [ht1] at this
   have HAE:Hid (aptCAt at_ i=(pgC x && !t1)):=Hd (by
    rw[HAD.out,←ht1]
    congr 2
    rw[Bool.eq_iff_iff];simp)
   have hsl:∀W,(Instr.slice 35 (.slice (some ⟨b1,o1,none⟩) n cap) none (some (.int .i64 (i:Int))) none).run Tryz.prog W=.ok (.slice (some ⟨b1,o1,none⟩) i cap) W:=fun W=>by
    rw[run_slice_h W 35 _ n cap elem_intsC .i64 (i:Int) (by omega) (by omega),size_intsC];simp[sliced];intro _;exact add_none b1 o1 0
   have HCELL:=Hd hcell;clear hout hb hall ht1 hx HAD HF hcell
   by_cases h2:x<2
   ·have d2:decide (x<2)=true:=by simpa using h2
    exact qca3992
   have d4:decide (x<2)=false:=by simpa using h2
   by_cases h9:999<x
   ·have d9:decide (999<x)=true:=by simpa using h9
    exact qca3992
   have d9:decide (999<x)=false:=by simpa using h9
   have HPG:Hid (pgC x=true):=Hd (by simp[pgC];omega);cases t1
   ·have HE:Hid (aptCAt at_ i=true):=Hd (by rw[HAE.out,HPG.out];rfl)
    clear HAE;go_wp2_with fail
    go_quiet (first|(go_at_call 186;(with_reducible exact quiet_same (hH1 _))))
    have hpl:=partC_length (v:=v) (i:=i);obtain⟨f,hf2⟩:∃f,119*i=f:=⟨_,rfl⟩
    obtain⟨m,hm⟩:∃m,min 119 (v.length-f)=m:=⟨_,rfl⟩
    have hmi:min ((v.length:Int)-119*(i:Int)) 119=(m:Int):=by omega
    have P:∀W,Calls Tryz.prog 185 #[.int .i64 (v.length:Int),.int .i64 (i:Int)] W fun e w'=>e=.returned (.int .i64 (m:Int))∧W=w':=fun W=>by
     have:=cpart_any v.length i (by omega) (by omega) W
     rwa [hmi] at this
    have hfi:119*(i:Int)=(f:Int):=by omega
    have hfm:f+m≤v.length:=by omega
    have hex:(strOf v).extract f (f+m)=strOf (partC v i):=by
     rw[strOf_extract,partC,hf2,show f+m-f=m by omega]
     congr 1
     by_cases h9:m=119
     ·rw[h9]
     ·rw[List.take_of_length_le (by simp;omega),List.take_of_length_le (by simp;omega)]
    have hml:(partC v i).length=m:=by rw[hpl,hf2];exact hm
    have HRS:=Hd (show(List.range (i+1)).map (rpageC v at_)=(List.range i).map (rpageC v at_)++[rpageC v at_ i] by simp[List.range_succ]);have HPGE:=Hd (show rpageC v at_ i=pageOf 3 [wordUC (nextC at_ i)++partC v i] from rfl);have hfit3:fits 3 [wordUC (nextC at_ i)++partC v i]=true:=by
     have:=partC_le v i;simp[fits,lens_one,wordUC_length];omega
    have HFI:=Hd hfit3;have hm9:m≤119:=by omega
    clear hf2 hm hmi hpl hfit3
    by_cases hnx:i+1<n
    ·have d5:decide ((i:Int)+1<n)=true:=by simp;omega
     have HNX0:=Hd (show nextC at_ i=atC at_ (i+1) by rw[nextC,if_pos (by rw[E1.out];exact hnx)]);have c2:wr.cell? ⟨b1,o1+(i+1),none⟩=_:=(HB.out.cell (p:=⟨b1,o1+(i+1),none⟩) hbl).trans (HCELL.out (i+1) hnx);obtain⟨nx,hnxe⟩:∃nx,atC at_ (i+1)=nx:=⟨_,rfl⟩
     rw[hnxe] at c2;have HNX:=Hd (HNX0.out.trans hnxe);clear hnxe HNX0;go_wp2_with fail;refine(refNum_any (nx % 18446744073709551616) 2 (wr.drewN nq) (by omega)).mono ?_;rintro e w3 ⟨rfl,hb3⟩;have HB3:Hid (Below w.heap.size w w3):=Hd (below_then (below_drewN HB.out nq) hb3);have HO3:Hid (w3.ownsRow w.heap.size 9 1 u7 i (((List.range i).map (rpageC v at_)).map sv)):=Hd (own_below (show(wr.drewN nq).ownsRow w.heap.size 9 1 u7 i (((List.range i).map (rpageC v at_)).map sv) from HO.out) (Nat.le_refl _) hb3);rw[show numF (nx % 18446744073709551616) 2=wordUC nx from rfl];clear hb3;have hap:=strOf_append (wordUC nx) (partC v i);have hbn:(strOf (wordUC nx)).size+(strOf (partC v i)).size≤9223372036854775807:=by rw[strOf_size,strOf_size,wordUC_length,hml];omega
     have hcl:(wordUC nx++partC v i).length=2+m:=by rw[List.length_append,wordUC_length,hml]
     rw[HNX.out] at HFI HPGE;generalize wordUC nx=U at *;exact q779872
    ·have d5:decide ((i:Int)+1<n)=false:=by simp;omega
     have HNX:=Hd (show nextC at_ i=0 by rw[nextC,if_neg (by rw[E1.out];exact hnx)]);go_wp2_with fail;refine(refNum_any (0) 2 (wr.drewN nq) (by omega)).mono ?_;rintro e w3 ⟨rfl,hb3⟩;have HB3:Hid (Below w.heap.size w w3):=Hd (below_then (below_drewN HB.out nq) hb3);have HO3:Hid (w3.ownsRow w.heap.size 9 1 u7 i (((List.range i).map (rpageC v at_)).map sv)):=Hd (own_below (show(wr.drewN nq).ownsRow w.heap.size 9 1 u7 i (((List.range i).map (rpageC v at_)).map sv) from HO.out) (Nat.le_refl _) hb3);rw[show numF (0) 2=wordUC 0 from rfl];clear hb3;have hap:=strOf_append (wordUC 0) (partC v i);have hbn:(strOf (wordUC 0)).size+(strOf (partC v i)).size≤9223372036854775807:=by rw[strOf_size,strOf_size,wordUC_length,hml];omega
     have hcl:(wordUC 0++partC v i).length=2+m:=by rw[List.length_append,wordUC_length,hml]
     rw[HNX.out] at HFI HPGE;generalize wordUC 0=U at *;exact q779872
   ·have HE:Hid (aptCAt at_ i=false):=Hd (by rw[HAE.out,HPG.out];rfl)
    clear HAE;go_wp2_with fail
    go_quiet (first|(go_at_call 186;(with_reducible exact quiet_same (hH1 _))))
    go_wp2_with fail
    go_ret2
    exact HBAD.out _ (below_drewN HB.out nq) HE.out
  ·obtain rfl:i=n:=by omega
   have HA:Hid (putOkC v at_=true):=Hd (by
    rw[HD2.out,aptC,List.all_eq_true];intro j hj;rw[List.mem_range,E1.out] at hj;exact hall j hj)
   have HE:Hid (RPutPostC w v at_ (.returned (.tuple #[u7,.int .i64 0])) wr):=Hd ⟨_,by rw[putEC,HA.out];rfl,by
    have hap:aptC at_=true:=by rw[←HD2.out];exact HA.out
    rw[putLC,HA.out,if_pos rfl,E1.out,List.length_map,List.length_range,←List.map_congr_left (fun j _=>rpageC_eq hap j)];exact hout,hb⟩
   clear hout hall;go_wp2_with fail
   go_ret2
   exact HE.out
end Go.Proofs.YtpghlmcoajaiiaaGreatDoor
