/- Texts that other texts of this claim lean on, one behind the other. -/
import Derived.Deep.RegionLaw
import Derived.Deep.RegionWith
import Derived.Laws.CopyOwn
import Derived.Outline
import Derived.Laws.BitsAllLaws
import Derived.Deep.DeepCutAuto
import Derived.Deep.RegionHeld3
import Derived.Deep.QuietTactic
import Derived.BigQuiet
import Derived.Defers
import Derived.Recover
import Derived.RegionTactic
import Derived.IntWalk
import Derived.Laws.EntriesVeiled
import Derived.Laws.StructEq
import Derived.Deep.CutBlock
import Derived.Test.YtpghlmcoajaiiaaGreatDoorM1
set_option maxHeartbeats 20000000
set_option maxRecDepth 100000
namespace Go.Proofs.YtpghlmcoajaiiaaGreatDoor
open Go.RowKit
section
variable {p:Prop}
theorem q8f50cf (h:p:=by
 clear zm;rw[HLL.out] at hbss ⊢;obtain⟨b3,o3,a3,n3,c3,rfl,hb3,hcell,hbs3⟩:=hbss.at (k:=0) (by omega);rw[HC.out] at hbs3;rw[Nat.add_zero] at hcell;have hcc:=hbss.2.1;have hT:=take_any a3 n3 c3 C w2 hbs3 (by have:=hbs3.len;have:=HCL.out;omega);have HB2:=Hd hB;clear hu ho2 hb1 hb2 hbss hbs3 hB main;go_wp2_with fail;refine hT.mono ?_;rintro e w3 ⟨rfl,htk,hlt,hb3'⟩;have hN3:=hN _ _ htk;have HB3:=Hd (below_then HB2.out hb3');have HLT:=Hd (Nat.le_trans HB2.out.size hlt);generalize w3.heap.size-1=t at *;clear hT hb3' htk hlt hcell hN;go_wp2_with fail;refine hN3.mono ?_;rintro e w4 ⟨v4,rfl,rfl,hg4,htk4⟩;have HB4:=Hd (below_take HB3.out HLT.out hg4);have hR4:=hRs _ _ htk4;clear hN3 hRs hg4 htk4;go_wp2_with fail;refine hR4.mono ?_;rintro e w5 ⟨v5,rfl,ho5,hg5,htk5⟩;have HB5:=Hd (below_take HB4.out HLT.out hg5);have hE5:=tErr_any _ _ w5 htk5;have HO5:=Hd (own_baseC ho5 HB4.out.size);clear hR4 hg5 htk5 ho5;go_wp2_with fail;refine hE5.mono ?_;rintro e w6 ⟨rfl,rfl⟩;clear hE5;go_wp2_with fail
 go_ret3
 obtain⟨k1,k2,k3⟩:=HEND.out;rw[k1,k2,k3];exact⟨_,rfl,HO5.out,HB5.out⟩):p:=h
theorem q8bfa11 (h:p:=by
 go_enter Tryz.func178,Tryz.ntmps178;go_wp2_with fail;refine hr.mono ?_;rintro e w1 ⟨v1,rfl,ho1,hb1⟩;obtain⟨a1,c1,rfl,hbs1⟩:=Bs.of_own ho1;have hu:=main w1 a1 c1 hbs1 hb1;clear hr ho1 hbs1;go_wp2_with fail;refine hu.mono ?_;rintro e w2 ⟨v2,rfl,ho2,hb2⟩;have hB:=below_then hb1 hb2;obtain⟨a2,c2,rfl,hbss⟩:=ho2.bss
 first|exact Mk.go 107230 zm q3eabde|exact Mk.go 250553 zm qf7f6b9|exact Mk.go 392335 zm q8f50cf):p:=h
theorem q5881c0 (h:p:=by
 clear hdq hxq hoq htq hvq hm hE1 hE2 hxr hxe nbr hc hLL;go_wp2_with fail;change bodyPost Tryz.prog _ _ _ _ (st3 wq w.heap.size (.int .i64 p) (.bool false) (.slice aL LL.length cL));rw[←hwe];refine bodyPost_ret (v:=.agg #[.int .i64 p,.bool false,.slice aL LL.length cL]) (by simp[results,Tryz.results54,go_sem,z0,z1,z2]) rfl ?_;exact HE.out):p:=h
theorem q834c9f (h:p:=by
 go_wp2_with fail
 go_round
 case rel=>exact⟨(i+1)+1,by omega,by go_num,HT2.out⟩
 case measure=>simp[intOf];omega):p:=h
theorem qd2ed57 (h:p:=by
 clear hdq hxq hoq htq hvq hm hE1 hE2 hxr hxe nbr hc hLL;go_wp2_with fail;change bodyPost Tryz.prog _ _ _ _ (st3 wq w.heap.size (.int .i64 p) (.bool true) (.slice aL LL.length cL));rw[←hwe];refine bodyPost_ret (v:=.agg #[.int .i64 p,.bool true,.slice aL LL.length cL]) (by simp[results,Tryz.results54,go_sem,z0,z1,z2]) rfl ?_;exact HE.out):p:=h
theorem q7447d2 (h:p:=by
 clear zm;have hab:a≠[]∨b≠[]:=by
  rw[e] at hl2;cases a with
  | nil=>cases b with
   | nil=>simp at hl2
   | cons=>exact .inr (by simp)
  | cons=>exact .inl (by simp)
 have hk0:keyAt (a++(c.1,putT n c.2 key v)::b) 0=[]:=by
  rw[e] at h0;cases a<;>simpa[keyAt] using h0
 obtain⟨q,m,e1,e2,e3,e4,e5⟩:=mend_ok (p:=0) hc i1 i2 hk0 (.inr hab);rw[hput,e1];have hsm:sumT (.node 0 (a++(c.1,putT n c.2 key v)::b))=sumT (.node p l):=by
  rw[e,sum_node_append 0 0 0,sum_node_cons 0 0,sum_node_append p 0 0,sum_node_cons 0 0 c]
 have hq:sumT (.node q m)=sumT (.node 0 m):=rfl;exact⟨shape_node e2 e3,by omega,fun p' l' e=>by cases e⟩):p:=h
theorem qf3880a (h:p:=by
 clear zm;rw[hput];have hkind:=kids_kind h1;cases n with
 | zero=>exact hp.1.elim
 | succ n=>
  rw[ents_mend (by
   intro d hd;have ht:(putT (n+1) c.2 key v).isLeaf=decide (n+1=1):=shape_kind i1;rw[ht]
   rcases List.mem_append.1 hd with hd|hd
   ·exact hkind d (by rw[e];simp[hd])
   ·rcases List.mem_cons.1 hd with rfl|hd
    ·exact ht
    ·exact hkind d (by rw[e];simp[hd]))]
  rw[ents_node,e,entsK_append,entsK_cons,entsK_append,entsK_cons,ih];obtain⟨q1,q2,q3⟩:=hc;have hA:∀d∈entsK (n+1) a,d.1<key:=by
   rcases q1 with⟨rfl,_⟩|⟨ha,e1,e2,e3,rfl⟩
   ·intro d hd;simp[entsK] at hd
   ·intro d hd
    have:=(kids_ents (fun h=>shape_ents h) e1).2 d hd;exact klt_le (this.2.2.1.resolve_left e2.1) g1
  have hB:∀d∈entsK (n+1) b,key<d.1:=by
   rcases q2 with⟨rfl,_⟩|⟨d,r,rfl,rfl,e1,e2,e3⟩
   ·intro d hd;simp[entsK] at hd
   ·intro d' hd
    have:=(kids_ents (fun h=>shape_ents h) e3).2 d' hd;exact klt_le (g2.resolve_left e1.1) this.2.1
  rw[putL_ahead hA,putL_behind hB]):p:=h
theorem q85e500 (h:p:=by
 obtain⟨i1,i2,i3⟩:=put_ok hp.1 hp.2.2 (fun q m e=>good_len (p:=q) (by rw[←e];exact hp)) hk g1 g2 hv;have hset:l.set (wayF (keysOf l) key) (keyAt l (wayF (keysOf l) key),putT n (kidAt l (wayF (keysOf l) key)) key v)=a++(c.1,putT n c.2 key v)::b:=by
  rw[←hal]
  conv=>lhs;rw[e]
  rw[keyAt_at,kidAt_at,List.set_append_right _ _ (Nat.le_refl _),Nat.sub_self,List.set_cons_zero]
 have hput:putT (n+1) (.node p l) key v=mendT 0 (a++(c.1,putT n c.2 key v)::b) a.length:=by
  show mendT 0 _ _=_;rw[hset,hal]
 first|exact Mk.go 620562 zm q7447d2|exact Mk.go 960074 zm qf3880a):p:=h
theorem q931089 (h:p:=by
 go_wp2
 go_round
 case rel=>exact⟨k+1,by omega,by go_num,by rw[H.out];go_num⟩
 case measure=>simp[intOf];omega):p:=h
theorem qe9cca3 (h:p:=by
 refine bkw hK (by with_reducible assumption) (fun hHeld=>?_);clear hK K;refine tks [5,6] ?_;refine tkn [7,8] ?_;refine tkn [9,10] ?_;refine tks [11,12] ?_;refine wpAnyH_done (by kernel_rfl) ?_ _;refine NoPanic.normal ?_;have hb8:=below_then hbw hC7;go_wp2_with fail;go_ret;exact⟨ret_bool (by rw[HN.out,hg2,Bool.false_and]),hb8⟩):p:=h
theorem q317315 (h:p:=by
 go_wp2_with fail
 go_round
 case rel=>exact⟨0+1,by omega,by go_num,HT2.out⟩
 case measure=>simp[intOf];omega):p:=h
theorem q44d2aa (h:p:=by
 have HO:=Hd ho10;have HB10:=Hd hb10;clear ho10 hb10 B10 hg10 hr10 hown9 hk91 hk92 hk93 ho9 ha9 hr9 B9 hC9 hg9 hs8 ho8 B8 hC8 hb8 B7 hC7 hb7 ho7 hC B6 B6d c0 c1 c2 c3 c4 hvb hvg;go_wp2_with fail;go_roundw
 case rel=>exact⟨k+1,_,by omega,by go_num,rfl,HO.out,HB10.out⟩
 case measure=>simp[intOf];omega):p:=h
theorem q45f98e (h:p:=by
 clear zm;show Calls _ _ #[.pointer (some ⟨sb,0,none⟩),.agg #[.int .i64 0,.bool true,.slice a l.length c]] _ _;have hne:l≠[]:=hl0;have hpos:0<l.length:=List.length_pos_iff.2 hl0;have q0:((l.length:Int) == 0)=false:=by simp;omega
 have q0':(l.length == 0)=false:=by simp;exact hl0
 have hfr:freshN (n+1) (.leaf 0 l)=1+(l.map fun c=>needC c.2.data.length).sum:=by unfold freshN;rw[if_neg hl0]
 rw[hfr] at hf hws;have HI0:=Hd (show(([]:List Rc)=(([]:List (List UInt8×Tv)).map fun c=>(⟨c.1,c.2,none⟩:Rc))∧([]:List En)=([]:List (List UInt8×Tv)).map entV∧(layVs l left).1=[]++(layVs (l.drop 0) left).1∧ws++(layVs l left).2.1=ws++(layVs (l.drop 0) left).2.1∧((l.drop 0).map fun c=>needC c.2.data.length).sum+1≤left.length∧(layVs l left).2.2=(layVs (l.drop 0) left).2.2∧ws.length+((l.drop 0).map fun c=>needC c.2.data.length).sum+1≤40000) from⟨rfl,rfl,by simp,by simp,by rw[List.drop_zero];omega,by simp,by rw[List.drop_zero];omega⟩);clear hf hws hfr hne;clear h hG hB hb hbk hv h1 hfa hcn hbB hsB hxB hvg hLM hwB hy;go_enter Tryz.func91,Tryz.ntmps91;go_upto_region 5 with(fail)
 rw[←HWB.out];go_wp2_with fail
 go_loopw [7,8] (fun s7 _ wr=>∃(i:Nat) (vi:Value) (ws2:List Wr) (la2:Option Addr) (lc2:Nat) (left2:List Int) (vC:Value) (LL:List (Cl 4)) (ys:List Rc) (vE:Value) (es:List En) (dn:List (List UInt8×Tv)),i≤l.length∧s7=.int .i64 i∧LL.length=i∧es.length=i∧LM F w wB sb vL vL (w.heap.size+1+1) (w.heap.size+1+1+1) (w.heap.size+1) n true vi ws2 la2 lc2 left2 vC LL ys vE es wr∧dn.length=i∧(ys=(dn.map fun c=>(⟨c.1,c.2,none⟩:Rc))∧es=dn.map entV∧(layVs l left).1=dn++(layVs (l.drop i) left2).1∧ws++(layVs l left).2.1=ws2++(layVs (l.drop i) left2).2.1∧((l.drop i).map fun c=>needC c.2.data.length).sum+1≤left2.length∧(layVs l left).2.2=(layVs (l.drop i) left2).2.2∧ws2.length+((l.drop i).map fun c=>needC c.2.data.length).sum+1≤40000)) (fun s _ _=>l.length-(intOf s).toNat)
 case atStart=>exact⟨0,vL,ws,la,lc,left,_,[],[],_,[],[],Nat.zero_le _,rfl,rfl,rfl,HLM.out,rfl,HI0.out⟩
 case round=>
  have zm:=Mk.i 376653;exact q8c70ab):p:=h
theorem q5fd854 (h:p:=by
 clear zm;show Calls _ _ #[.pointer (some ⟨sb,0,none⟩),.agg #[.int .i64 0,.bool false,.slice a l.length c]] _ _;have hfr:freshN (n+1) (.node 0 l)=1+(l.map fun c=>freshN n c.2).sum:=by rw[freshN]
 rw[hfr] at hf hws;have HI0:=Hd (show(([]:List Rc)=(([]:List (List UInt8×Tr)).map fun c=>(⟨c.1,⟨[],[]⟩,some c.2⟩:Rc))∧([]:List En)=([]:List (List UInt8×Tr)).map entK∧(layKs (layT n) l left).1=[]++(layKs (layT n) (l.drop 0) left).1∧ws++(layKs (layT n) l left).2.1=ws++(layKs (layT n) (l.drop 0) left).2.1∧((l.drop 0).map fun c=>freshN n c.2).sum+1≤left.length∧(layKs (layT n) l left).2.2=(layKs (layT n) (l.drop 0) left).2.2∧ws.length+((l.drop 0).map fun c=>freshN n c.2).sum+1≤40000) from⟨rfl,rfl,by simp,by simp,by rw[List.drop_zero];omega,by simp,by rw[List.drop_zero];omega⟩);clear hf hws hfr;clear h hG hB hb hbk hv h1 hfa hcn hbB hsB hxB hvg hLM hwB hy;go_enter Tryz.func91,Tryz.ntmps91;go_upto_region 5 with(fail)
 rw[←HWB.out];go_wp2_with fail
 go_loopw [7,8] (fun s7 _ wr=>∃(i:Nat) (vi:Value) (ws2:List Wr) (la2:Option Addr) (lc2:Nat) (left2:List Int) (vC:Value) (LL:List (Cl 4)) (ys:List Rc) (vE:Value) (es:List En) (dn:List (List UInt8×Tr)),i≤l.length∧s7=.int .i64 i∧LL.length=i∧es.length=i∧LM F w wB sb vL vL (w.heap.size+1+1) (w.heap.size+1+1+1) (w.heap.size+1) n false vi ws2 la2 lc2 left2 vC LL ys vE es wr∧dn.length=i∧(ys=(dn.map fun c=>(⟨c.1,⟨[],[]⟩,some c.2⟩:Rc))∧es=dn.map entK∧(layKs (layT n) l left).1=dn++(layKs (layT n) (l.drop i) left2).1∧ws++(layKs (layT n) l left).2.1=ws2++(layKs (layT n) (l.drop i) left2).2.1∧((l.drop i).map fun c=>freshN n c.2).sum+1≤left2.length∧(layKs (layT n) l left).2.2=(layKs (layT n) (l.drop i) left2).2.2∧ws2.length+((l.drop i).map fun c=>freshN n c.2).sum+1≤40000)) (fun s _ _=>l.length-(intOf s).toNat)
 case atStart=>exact⟨0,vL,ws,la,lc,left,_,[],[],_,[],[],Nat.zero_le _,rfl,rfl,rfl,HLM.out,rfl,HI0.out⟩
 case round=>
  have zm:=Mk.i 145974;exact q8c70ab):p:=h
theorem q9f992a (h:p:=by
 have HNB0:=Hd (hxB.cell 3 0 rfl rfl);have HNB1:=Hd (hxB.cell 3 1 rfl rfl);have HNB2:=Hd (hxB.cell 3 2 rfl rfl);have HV:=Hd hv;have H1:=Hd h1;have HFA:=Hd hfa;have HG:=Hd hG;have HBK:=Hd hbk;have HLM:=Hd hLM;have HSB:=Hd hsB;have HVG:=Hd hvg;have HWB:=Hd hwB;have HFB:=Hd (show ∀b,F b→b<sb from hy.fb);have hzN:=zero_refN;have hzC:=zero_refC;have hzM:∀W:World,(zeroValue 221).run Tryz.prog W=.ok (.agg #[.bool false,.slice none 0 0]) W:=fun W=>by kernel_rfl
 first|exact Mk.go 585870 zm q45f98e|exact Mk.go 281300 zm q5fd854):p:=h
theorem q426cc0 (h:p:=by
 have HO:=Hd ho9;have HB9:=Hd hz9;have HB9x:=Hd B9;clear ho9 hz9 B9 hg9 hE hbe
 go_wp2_with (at_builtin;refine wpList_append_run rfl _ _ _ _ rfl rfl rfl hr9 ?_)
 go_roundw
 case rel=>exact⟨k+1,_,by omega,by go_num,rfl,HO.out,HB9x.out,HB9.out⟩
 case measure=>simp[intOf];omega):p:=h
theorem q0707a3 (h:p:=by
 go_enter Tryz.func237,Tryz.ntmps237
 go_wp2_with (first|(go_at_call 233;(with_reducible refine(K _).mono ?_);rintro e w' ⟨rfl,rfl⟩)|(go_at_call 234;(with_reducible refine(P _).mono ?_);rintro e w' ⟨rfl,rfl⟩))
 all_goals
  go_ret;exact ret_b (by simp[HM.out,HF.out]) HB.out):p:=h
theorem q8d11a8 (h:p:=by
 clear zm;have hx3:Boxes w3 [(w2.heap.size,#[.string (strOf key),.string (strOf d),.bool false,.int .i64 0,.int .i64 0].toList),(w.heap.size+1,#[.string ⟨#[]⟩,.string ⟨#[]⟩,.bool false,.int .i64 0,.int .i64 0].toList),(w.heap.size,#[.string (strOf key),.string (strOf d),.slice pa 0 pc,.slice ka kn kc].toList)]:=by
  exact qb8d653
 have zm:=Mk.i 445978;exact qc687a8):p:=h
theorem q5692d6 (h:p:=by
 clear zm;have hx3:Boxes w3 [(w2.heap.size,#[.string (strOf key),.string (strOf d),.bool false,.int .i64 0,.int .i64 0].toList),(w.heap.size+1,#[.string ⟨#[]⟩,.string ⟨#[]⟩,.bool false,.int .i64 0,.int .i64 0].toList),(w.heap.size,#[.string (strOf key),.string (strOf d),.slice pa pn pc,.slice ka kn kc].toList)]:=by
  exact qb8d653
 have zm:=Mk.i 561154;exact qc687a8):p:=h
theorem q192762 (h:p:=by
 clear zm;have hx3:Boxes w3 [(w2.heap.size,#[.string (strOf key),.string (strOf d),.bool false,.int .i64 0,.int .i64 0].toList),(w.heap.size+1,#[.string ⟨#[]⟩,.string ⟨#[]⟩,.bool false,.int .i64 0,.int .i64 0].toList),(w.heap.size,#[.string (strOf key),.string (strOf d),.slice pa pn pc,.slice (some ⟨kb,ko,none⟩) kn kc].toList)]:=by
  exact qb8d653
 have zm:=Mk.i 309640;exact qc687a8):p:=h
theorem q7660cc (h:p:=by
 have HS2:=Hd (show w2.heap.size=w.heap.size+2 by rw[←hw2];simp);obtain⟨w3,hw3⟩:∃x,x=w2.alloc (.cells #[.string (strOf key),.string (strOf d),.bool false,.int .i64 0,.int .i64 0] 226):=⟨_,rfl⟩
 have hb23:Below w2.heap.size w2 w3:=by rw[hw3];exact Below.al (Below.refl _ _)
 first|exact Mk.go 245096 zm q8d11a8|exact Mk.go 673686 zm q5692d6|exact Mk.go 648482 zm q192762):p:=h
theorem q857964 (h:p:=by
 go_wp2_with fail;change bodyPost Tryz.prog _ _ Exit.ret _ (st3 wq w.heap.size (.int .i64 p) (.bool false) (.slice none 0 0));rw[←hwe];refine bodyPost_ret (v:=.agg #[.int .i64 p,.bool false,.slice none 0 0]) (by simp[results,Tryz.results54,go_sem,z0,z1,z2]) rfl ?_;exact HE.out):p:=h
theorem q1555f1 (h:p:=by
 refine⟨?_,h2⟩
 rcases h1 with⟨_,q',hq',he⟩|⟨h0,_⟩
 ·rw[Int.toNat_natCast,hq] at hq';cases hq';exact he
 ·exact absurd rfl h0):p:=h
theorem q5ccb74 (h:p:=by
 refine bkw hK (by trivial) (fun hHeld=>?_);clear hK K;refine rdy 3 (fun K hK=>?_);refine step_convert_run rfl _ _ _ rfl rfl hcv ?_;refine bkw hK (by trivial) (fun hHeld=>?_);clear hK K;refine rdy 4 (fun K hK=>?_);refine step_buildSlice_one rfl _ _ rfl rfl bs1 ?_;exact q299ef4):p:=h
theorem qcc5afb (h:p:=by
 refine bkw hK (by with_reducible assumption) (fun hHeld=>?_);clear hK K;refine tks [4,5] ?_;refine tkn [6,7] ?_;refine tkn [8,9] ?_;refine tkn [10,11] ?_;refine tkn [12,13] ?_;refine tkn [14,15] ?_;refine tkn [16,17] ?_;refine tkn [18,19] ?_;refine tks [20] ?_;exact q894f49):p:=h
theorem qe90b89 (h:p:=by
 clear zm;rw[freshN,entsT];omega):p:=h
theorem qf0453a (h:p:=by
 clear zm;have:=h3 p l rfl;rw[freshN,entsT];omega):p:=h
theorem q28a53e (h:p:=by
 have hsum:∀l:List (List UInt8×Tr),(∀c∈l,freshN n c.2+1≤6*(entsT n c.2).length)→(l.map fun c=>freshN n c.2).sum+l.length≤6*(l.flatMap fun c=>entsT n c.2).length:=fun l hl=>by
  induction l with
  | nil=>simp
  | cons c r ih=>
   simp only[List.map_cons,List.sum_cons,List.length_cons,List.flatMap_cons,List.length_append];have:=hl c (by simp);have:=ih (fun x hx=>hl x (List.mem_cons_of_mem _ hx));omega
 have:=hsum l hall
 first|exact Mk.go 272841 zm qe90b89|exact Mk.go 746362 zm qf0453a):p:=h
theorem q35e021 (h:p:=by
 go_enter Tryz.func59,Tryz.ntmps59;go_wp2_with fail;refine hE.mono ?_;rintro e w' ⟨rfl,rfl⟩
 go_wp2
 go_ret;exact⟨ret_int HD.out.symm,rfl⟩):p:=h
theorem q616dfb (h:p:=by
 clear zm;have HV:=Hd hv;have H1:=Hd h1;have HX0:=Hd hX0;have HB0:=Hd hB0;have HBD:=Hd hb;show Calls _ _ #[.agg #[.int .i64 0,.bool false,.slice a l.length c]] _ _;clear h hB hb hv h1 hX0 hB0 hcn;go_enter Tryz.func167,Tryz.ntmps167;go_wp2_with fail
 go_loopw [3,4] (fun s3 s4 wr=>∃i:Nat,i≤l.length∧s4=.int .i64 i∧s3=.slice none 0 0∧Below w.heap.size w wr∧Boxes wr [(w.heap.size,[.int .i64 0,.bool false,.slice a l.length c])]) (fun _ s _=>l.length-(intOf s).toNat)
 case atStart=>exact⟨0,Nat.zero_le _,rfl,rfl,HB0.out,HX0.out⟩
 case round=>
  obtain⟨i,hi,rfl,rfl,hbw,hx⟩:=hrel;have c0:=hx.cell 0 0 rfl rfl;have c1:=hx.cell 0 1 rfl rfl;have c2:=hx.cell 0 2 rfl rfl;have iw2:IntKind.i64.wrap ((i:Int)+1)=(i:Int)+1:=by simp[IntKind.wrap,IntKind.signed,IntKind.bits];omega
  by_cases hlt:i<l.length
  ·have H1L:TabR 4 (RcOn F n w) w a l.length c (cellsR (.node 0 l)):=H1.out
   obtain⟨b,off,y,pa,pn,pc,ka,kn,kc,rfl,hbb,hy,_,hrow,_,htk,_,k0,k1,k2,k3⟩:=RNodeOn.cell H1L hlt;rw[cellsR_node] at hy;obtain⟨x,hx1,hx2⟩:=Option.map_eq_some_iff.1 hy;subst hx2;obtain⟨key,tv⟩:=x;dsimp only at *;have hpn:pn=0:=hrow.1.symm;subst hpn;have hpc:pc≤9223372036854775807:=by have:=hrow.2.2.1;unfold maxLen at this;omega
   have g2:=(hbw.cell (p:=⟨b,off+i*4+2,none⟩) hbb).trans k2;have q1:decide ((i:Int)<(l.length:Int))=true:=decide_eq_true (by omega);have q2:decide (i<l.length)=true:=decide_eq_true hlt;have hkb:Bare tv:=HV.out _ (List.mem_of_getElem? hx1);have hkm:=(HBD.out.2 _ (List.mem_of_getElem? hx1)).2;obtain⟨b2,off2,y2,cs2,rfl,hb2,hy2,hl2,hon2,hcs2⟩:=TabR.at htk (k:=0) (by have h9:([tv]:List Tr).length=kn:=htk.1;simp at h9;omega);have hy3:y2=tv:=by simpa using hy2.symm
   subst hy3;obtain⟨ka',kn',kc',e9⟩:=RNodeOn.open_pos hon2;subst e9;have r0:=hcs2 0 _ rfl;have r1:=hcs2 1 _ rfl;have r2:=hcs2 2 _ rfl;simp only[Nat.zero_mul,Nat.add_zero] at r0 r1 r2;have hkn:0<kn:=by have h9:([y2]:List Tr).length=kn:=htk.1;simp at h9;omega
   have C:=IH (hon2.agree (AgreeF.of_below hbw)) hkb hkm;have s0:=(hbw.cell (p:=⟨b2,off2,none⟩) hb2).trans r0;have s1:=(hbw.cell (p:=⟨b2,off2+1,none⟩) hb2).trans r1;have s2:=(hbw.cell (p:=⟨b2,off2+2,none⟩) hb2).trans r2;have g3:=(hbw.cell (p:=⟨b,off+i*4+3,none⟩) hbb).trans k3;have q5:decide ((0:Int)<(kn:Int))=true:=decide_eq_true (by omega);have q6:decide (0<kn)=true:=decide_eq_true hkn;have HBW:=Hd hbw;have HX:=Hd hx;clear hbw hx hrow hy hx1 htk k0 k1 k2 k3 hy2 hon2 hkb hkm hcs2 r0 r1 r2
   go_wp2_with (at_builtin;refine wpList_append_run rfl _ _ _ _ rfl rfl rfl (append_none _ _ _) ?_)
   refine C.mono ?_;rintro e wx ⟨rfl,hbx⟩;have HB2:=Hd (HBW.out.trans (hbx.mono HBW.out.size));have HX2:=Hd (HX.out.step hbx);clear hbx
   go_wp2_with (at_builtin;refine wpList_append_run rfl _ _ _ _ rfl rfl rfl (append_none _ _ _) ?_)
   go_roundw
   case rel=>exact⟨i+1,hlt,by go_num,rfl,HB2.out,HX2.out⟩
   case measure=>simp[intOf];omega
  ·have q1:decide ((i:Int)<(l.length:Int))=false:=decide_eq_false (by omega)
   have q2:decide (i<l.length)=false:=decide_eq_false hlt;have HBW:=Hd hbw;clear hbw hx;go_wp2_with fail;go_ret;exact⟨rfl,HBW.out⟩):p:=h
theorem q81f410 (h:p:=by
 clear zm;have c1:=hX0.cell 0 1 rfl rfl;have c2:=hX0.cell 0 2 rfl rfl;have HV:=Hd hv;have H1:=Hd h1;have HX0:=Hd hX0;have HB0:=Hd hB0;have HF:=Hd hf;show Calls _ _ #[.agg #[.int .i64 0,.bool false,.slice a l.length c]] _ _;obtain⟨m,hm⟩:∃m,freshN (n+1) (.node 0 l)=m:=⟨_,rfl⟩
 have hm2:m=1+(l.map fun c=>freshN n c.2).sum:=by rw[←hm,freshN]
 rw[hm] at hf;rw[hm];have HM:=Hd hm2;have HBK:=Hd hbk;clear h hB hb hv h1 hX0 hB0 hcn hm hm2 hbk;go_enter Tryz.func43,Tryz.ntmps43;go_wp2_with fail
 go_loopw [3,4,5] (fun s3 s4 _ wr=>∃i:Nat,i≤l.length∧s4=.int .i64 i∧s3=.int .i64 ((1+((l.take i).map fun c=>freshN n c.2).sum:Nat):Int)∧Below w.heap.size w wr∧Boxes wr [(w.heap.size,[.int .i64 0,.bool false,.slice a l.length c])]) (fun _ s _ _=>l.length-(intOf s).toNat)
 case atStart=>exact⟨0,Nat.zero_le _,rfl,rfl,HB0.out,HX0.out⟩
 case round=>
  obtain⟨i,hi,rfl,rfl,hbw,hx⟩:=hrel;have c0:=hx.cell 0 0 rfl rfl;have c1:=hx.cell 0 1 rfl rfl;have c2:=hx.cell 0 2 rfl rfl;have iw2:IntKind.i64.wrap ((i:Int)+1)=(i:Int)+1:=by simp[IntKind.wrap,IntKind.signed,IntKind.bits];omega
  by_cases hlt:i<l.length
  ·have H1L:TabR 4 (RcOn F n w) w a l.length c (cellsR (.node 0 l)):=H1.out
   obtain⟨b,off,y,pa,pn,pc,ka,kn,kc,rfl,hbb,hy,_,_,_,htk,_,k0,k1,k2,k3⟩:=RNodeOn.cell H1L hlt;rw[cellsR_node] at hy;obtain⟨x,hx1,hx2⟩:=Option.map_eq_some_iff.1 hy;subst hx2;obtain⟨key,kid⟩:=x;dsimp only at *;have hkb:Bare kid:=HV.out _ (List.mem_of_getElem? hx1);have hkm:=(HBK.out _ (List.mem_of_getElem? hx1)).2;obtain⟨b2,off2,y2,cs2,rfl,hb2,hy2,hl2,hon2,hcs2⟩:=TabR.at htk (k:=0) (by have h9:([kid]:List Tr).length=kn:=htk.1;simp at h9;omega);have hy3:y2=kid:=by simpa using hy2.symm
   subst hy3;obtain⟨ka',kn',kc',e9⟩:=RNodeOn.open_pos hon2;subst e9;have r0:=hcs2 0 _ rfl;have r1:=hcs2 1 _ rfl;have r2:=hcs2 2 _ rfl;simp only[Nat.zero_mul,Nat.add_zero] at r0 r1 r2;have hkn:0<kn:=by have h9:([y2]:List Tr).length=kn:=htk.1;simp at h9;omega
   obtain⟨S0,hS0⟩:∃x,((l.take i).map fun c=>freshN n c.2).sum=x:=⟨_,rfl⟩
   obtain⟨N0,hN0⟩:∃x,freshN n y2=x:=⟨_,rfl⟩
   have hS1:((l.take (i+1)).map fun c=>freshN n c.2).sum=S0+N0:=by rw[sum_take_succ _ hx1,hS0];exact congrArg _ hN0
   have hS9:=sum_take_le (fun c:List UInt8×Tr=>freshN n c.2) l (i+1);rw[hS1] at hS9;have hm:=HM.out;have hSm:1+S0+N0≤1000000:=by omega
   rw[hS0];have g0:=(hbw.cell (p:=⟨b,off+i*4,none⟩) hbb).trans k0;have g1:=(hbw.cell (p:=⟨b,off+i*4+1,none⟩) hbb).trans k1;have g2:=(hbw.cell (p:=⟨b,off+i*4+2,none⟩) hbb).trans k2;have g3:=(hbw.cell (p:=⟨b,off+i*4+3,none⟩) hbb).trans k3;have iw3:IntKind.i64.wrap (((1+S0:Nat):Int)+(N0:Int))=((1+(S0+N0):Nat):Int):=by simp[IntKind.wrap,IntKind.signed,IntKind.bits];omega
   have q1:decide ((i:Int)<(l.length:Int))=true:=decide_eq_true (by omega);have q2:decide (i<l.length)=true:=decide_eq_true hlt;obtain⟨wc,hwc⟩:∃x,x=wr.alloc (.cells #[.string (strOf key),.string (strOf []),.slice pa pn pc,.slice (some ⟨b2,off2,none⟩) kn kc] 145):=⟨_,rfl⟩
   have hbc:Below wr.heap.size wr wc:=by rw[hwc];exact Below.al (Below.refl _ _)
   have hxc:Boxes wc [(wr.heap.size,[.string (strOf key),.string (strOf []),.slice pa pn pc,.slice (some ⟨b2,off2,none⟩) kn kc])]:=by rw[hwc];exact(Boxes.nil wr).alloc #[.string (strOf key),.string (strOf []),.slice pa pn pc,.slice (some ⟨b2,off2,none⟩) kn kc] 145 rfl
   have hx2:=hx.step hbc;have e1:=hx2.cell 0 1 rfl rfl;have e2:=hxc.cell 0 2 rfl rfl;have e3:=hxc.cell 0 1 rfl rfl;have hbwc:=hbw.trans (hbc.mono hbw.size);have C:=IH (hon2.agree (AgreeF.of_below hbwc)) hkb hkm (by rw[hN0];omega);rw[hN0] at C;have s0:=(hbwc.cell (p:=⟨b2,off2,none⟩) hb2).trans r0;have s1:=(hbwc.cell (p:=⟨b2,off2+1,none⟩) hb2).trans r1;have s2:=(hbwc.cell (p:=⟨b2,off2+2,none⟩) hb2).trans r2;have e4:=hxc.cell 0 3 rfl rfl;have q5:decide ((0:Int)<(kn:Int))=true:=decide_eq_true (by omega);have q6:decide (0<kn)=true:=decide_eq_true hkn;have HBW:=Hd (hbw.trans (hbc.mono hbw.size));have HX:=Hd hx2;have HWC:=Hd hwc;have HS1:=Hd hS1;clear hbw hx hx2 hbc hxc hwc hS0 hN0 hS1 hS9 hm hy hy2 hx1 hon2 htk hkb hkm hcs2 hbwc r0 r1 r2 k0 k1 k2 k3;go_upto_region 8 with(fail)
   rw[←HWC.out];go_wp2_with fail;refine C.mono ?_;rintro e wx ⟨rfl,hbx⟩;have HB2:=Hd (HBW.out.trans (hbx.mono HBW.out.size));have HX2:=Hd (HX.out.step hbx);clear hbx;go_wp2_with fail;go_roundw
   case rel=>exact⟨i+1,hlt,by go_num,by rw[HS1.out];go_num,HB2.out,HX2.out⟩
   case measure=>simp[intOf];omega
  ·have hin:i=l.length:=by omega
   have q1:decide ((i:Int)<(l.length:Int))=false:=decide_eq_false (by omega);have q2:decide (i<l.length)=false:=decide_eq_false hlt;have hm:=HM.out;have hfin:((1+((l.take i).map fun c=>freshN n c.2).sum:Nat):Int)=(m:Int):=by rw[hin,List.take_length,hm]
   rw[hfin];have HBW:=Hd hbw;clear hbw hx hfin hm hin;go_wp2_with fail;go_ret;exact⟨rfl,HBW.out⟩):p:=h
theorem q3719f5 (h:p:=by
 have hcn:cntT (.node 0 l)=l.length:=rfl;rw[hcn] at h1;obtain⟨wb,hwb⟩:∃x,w.alloc (.cells #[.int .i64 0,.bool false,.slice a l.length c] 27)=x:=⟨_,rfl⟩
 have hB0:Below w.heap.size w wb:=by rw[←hwb];exact Below.al (Below.refl _ _)
 have hX0:Boxes wb [(w.heap.size,[.int .i64 0,.bool false,.slice a l.length c])]:=by rw[←hwb];exact(Boxes.nil w).alloc #[.int .i64 0,.bool false,.slice a l.length c] 27 rfl
 have c0:=hX0.cell 0 0 rfl rfl
 first|exact Mk.go 385147 zm q616dfb|exact Mk.go 516624 zm q81f410):p:=h
theorem q7a1f1a (h:p:=by
 have HT:Hid (FT=VA):=Hd (by rw[HFIT.out,hall,Bool.true_and]);clear hall;go_wp2_with fail;refine CC.mono ?_;rintro e w2 ⟨rfl,hb2⟩;have HB2:=Hd (HB.out.trans (hb2.mono HB.out.size));clear hb2;go_wp2_with fail;go_ret;exact⟨by rw[HT.out];simp,HB2.out⟩):p:=h
theorem qfa32fd (h:p:=by
 clear zm;have hvals:∃vl:List Tv,TabR 2 (IsTv w) w va vn vc vl∧(∀v∈vl,v.data.length≤1000)∧fitT lo hi t=(fitTo lo hi lf t.keys m && vl.all valB):=by
  cases t with
  | leaf p l=>
   have:lf=true:=hlf.symm;subst this;refine⟨l.map (·.2),Raw.tab h2 h4.2.1,(fun v hv=>?_),?_⟩
   ·obtain⟨c,hc,rfl⟩:=List.mem_map.1 hv
    exact(hb.2 c hc).2
   ·have hm:l.length=m:=hm
    show(fitTo lo hi true (keysOf l) l.length && l.all fun c=>valB c.2)=(fitTo lo hi true (keysOf l) m && _);rw[hm,List.all_map];rfl
  | node p l=>
   have:lf=false:=hlf.symm;subst this;have hv0:V=[]:=h4.2.1;have hvn0:vn=0:=hvn;subst hvn0;have hm:l.length=m:=hm;refine⟨[],⟨rfl,h2.2.1,h2.2.2.1,h2.2.2.2.1,.inl rfl⟩,(fun v hv=>by cases hv),?_⟩;show fitTo lo hi false (keysOf l) l.length=(fitTo lo hi false (keysOf l) m && true);rw[hm,Bool.and_true]
 obtain⟨vl,hv1,hv2,hfit⟩:=hvals;have zm:=Mk.i 524194;exact q798742):p:=h
theorem q85cc14 (h:p:=by
 clear zm;rw[hlf,hm,hpg] at hh;have hB0:Below w.heap.size w (w.alloc (.cells #[.int .i64 pg,.bool lf,.slice ka m kc,.slice va vn vc,.slice ca cn cc] 50)):=Below.al (Below.refl _ _);have hX0:Boxes _ [(w.heap.size,[.int .i64 pg,.bool lf,.slice ka m kc,.slice va vn vc,.slice ca cn cc])]:=((Boxes.nil w).alloc #[.int .i64 pg,.bool lf,.slice ka m kc,.slice va vn vc,.slice ca cn cc] 50 rfl)
 obtain⟨wA,hwA⟩:∃wA,w.alloc (.cells #[.int .i64 pg,.bool lf,.slice ka m kc,.slice va vn vc,.slice ca cn cc] 50)=wA:=⟨_,rfl⟩
 rw[hwA] at hB0 hX0;rw[hlf,hm,hpg];have CF:=depth_any (hh.below hB0) hb hn [] [] true (by decide) (by decide);have zm:=Mk.i 447653;exact qa8e0cc):p:=h
theorem q296b06 (h:p:=by
 obtain⟨ka,kc,va,vn,vc,ca,cn,cc,V,C,rfl,h1,h2,h3,h4⟩:=h.openK;obtain⟨_,r1,r2⟩:=h4.lens;obtain⟨lf,hlf⟩:∃x,t.isLeaf=x:=⟨_,rfl⟩
 obtain⟨m,hm⟩:∃x,cntT t=x:=⟨_,rfl⟩
 obtain⟨pg,hpg⟩:∃x,t.page=x:=⟨_,rfl⟩
 have hm9:m≤1000:=by rw[←hm];exact hb.cnt
 rw[hlf,hm] at r1 r2;have hvn:vn=if lf then m else 0:=by rw[←h2.1,r1]
 have hcn:cn=if lf then 0 else m:=by rw[←h3.1,r2]
 first|exact Mk.go 397053 zm qfa32fd|exact Mk.go 768532 zm q85cc14):p:=h
theorem qc817f7 (h:p:=by
 refine bkw hK (by with_reducible assumption) (fun hHeld=>?_);clear hK K;refine tks [4,5] ?_;refine tks [6,7] ?_;refine tks [8,9] ?_;refine tks [10,11] ?_;refine tks [12,13] ?_;refine tks [14,15] ?_;refine tks [16,17] ?_;refine tks [18,19,20] ?_;exact q894f49):p:=h
theorem q8ae8a2 (h:p:=by
 clear zm;have HLO:=Hd hlo;have HOK:=Hd hok;have HDL:=Hd hdl;clear hd hop c0 c1 hy hbs hb11 hbd hy128 hlo hok hdl;go_upto_region 12 with(fail)
 refine wp_region_noPanic ?_;refine wp_region_held_drew (S:=(fun W=>Below w2.heap.size w2 W)) (by kernel_rfl) (by exact hB0) (fun hHeld=>?_);refine tks [0,1] ?_;refine tks [2,3] ?_;refine tks [4,5] ?_;refine tks [6,7] ?_;refine tks [8,9,10] ?_;refine rdy 11 (fun K hK=>?_);refine step_convert_run rfl _ _ _ rfl rfl hcv ?_;refine bkw hK (by(with_reducible first|assumption|exact hBx11|exact hBx12)) (fun hHeld=>?_);clear hK K;refine rdy 12 (fun K hK=>?_)
 (rw[if_pos (by rfl)];go_wp2_with (fail);refine C.mono ?_;rintro e wx ⟨rfl,hdx,hbx⟩;have hBx12:Below w2.heap.size w2 wx:=hb.trans (hbx.mono (by omega)))
 refine bkw hK (by(with_reducible first|assumption|exact hBx11|exact hBx12)) (fun hHeld=>?_);clear hK K;refine wpAnyH_done (by kernel_rfl) ?_ _;refine NoPanic.normal ?_;have hd2:Both (w2.heap.size+1) wx.drew db (i+1) (writeD d 0 py by9) a8 1 c8 d:=hdx.below (below_drewN (Below.refl _ _) 1);have C2:=both_write hd2 (by omega) (fun x hx=>by have:=HLO.out x hx;omega) 0 py by9;have hb1:Below w2.heap.size w2 wx.drew:=hBx12.drew;clear hdx hbx hBx12 hBx11 C hd2 hcv hb;go_wp2_with fail
 go_region_held3 (fun W=>Below w2.heap.size w2 W) (with_reducible assumption) (first|(go_at_call 14;refine C2.mono ?_;rintro e wy ⟨a9,n9,c9,rfl,hdy,hby⟩;have hBy:Below w2.heap.size w2 wy:=below_then hb1 hby))
 all_goals
  have hn9:n9=1:=by have h2:=hdy.gs.1;rw[write_length] at h2;have h3:=HDL.out;omega
  subst hn9;have HDY:=Hd hdy;have HLY:=Hd (write_loose HLO.out 0 py by9);have HOY:=Hd (HOK.out.write 0 py by9);have HBY:=Hd hBy;clear cA cB hdy hBy hby hb1 C2;exact qd75aca):p:=h
theorem q9b303c (h:p:=by
 clear zm;have HWR:=Hd hstep.2;clear hd hwr hb hop c0 c1 hstep hy hym hbs hb11 hbd hy128;go_upto_region 8 with(fail)
 refine wp_region_noPanic ?_;refine wp_region_held_drew (S:=(fun W=>Below w2.heap.size w2 W)) (by kernel_rfl) (by exact hB0) (fun hHeld=>?_);refine tks [0,1] ?_;refine tks [2,3] ?_;refine tks [4,5] ?_;refine tks [6,7] ?_;refine tks [8,9,10] ?_;refine rdy 11 (fun K hK=>?_);refine step_convert_run rfl _ _ _ rfl rfl hcv ?_;refine bkw hK (by(with_reducible first|assumption|exact hBx11|exact hBx12)) (fun hHeld=>?_);clear hK K;refine rdy 12 (fun K hK=>?_)
 (rw[if_pos (by rfl)];go_wp2_with (fail);refine C.mono ?_;rintro e wx ⟨rfl,hdx,hbx⟩;have hBx12:Below w2.heap.size w2 wx:=hBx11.trans (hbx.mono (Nat.le_succ _)))
 refine bkw hK (by(with_reducible first|assumption|exact hBx11|exact hBx12)) (fun hHeld=>?_);clear hK K;refine wpAnyH_done (by kernel_rfl) ?_ _;refine NoPanic.normal ?_;have HDX:=Hd hdx;have HBX:=Hd hBx12;clear cA cB hdx hBx12 hBx11 hbx hcv C;go_wp2_with fail;go_roundw
 case rel=>exact⟨i+1,_,hlt,by go_num,HDX.out,HWR.out,HBX.out⟩
 case measure=>simp[intOf];omega):p:=h
theorem q560125 (h:p:=by
 have cA:∀W,Below w2.heap.size w2 W→W.cell? ⟨bl,ol+i*2,none⟩=some (.int .i64 py):=fun W hW=>(hW.cell (p:=⟨bl,ol+i*2,none⟩) hbl).trans c0
 have cB:∀W,Below w2.heap.size w2 W→W.cell? ⟨bl,ol+i*2+1,none⟩=some (.string (strOf by9)):=fun W hW=>(hW.cell (p:=⟨bl,ol+i*2+1,none⟩) hbl).trans c1
 have hB0:Below w2.heap.size w2 wr.drew:=hb.drew;have hBx11:Below w2.heap.size w2 w11:=below_then hb hbd
 first|exact Mk.go 103522 zm q8ae8a2|exact Mk.go 170428 zm q9b303c):p:=h
theorem q02edb4 (h:p:=by
 go_wp2_with fail;refine CSum.mono ?_;rintro e w3 ⟨rfl,rfl⟩;have H122:=Hd h122;clear h122;have HR:Hid (R=none):=Hd (HFAIL.out (by rw[HSZ.out];have:=H122.out;simp;intros;omega));exact qd1db3c):p:=h
theorem qa5216f (h:p:=by
 have H30:=Hd h30;clear h30;go_wp2_with fail;refine CL.mono ?_;rintro e w4 ⟨rfl,rfl⟩;have HR:Hid (R=none):=Hd (HFAIL.out (by rw[HSZ.out];have:=H30.out;simp;intros;omega));go_wp2_with fail;go_ret;exact⟨by rw[HR.out];rfl,HB3.out⟩):p:=h
theorem qb8d653 (h:p:=by
 rw[hw3];exact hx2.alloc #[.string (strOf key),.string (strOf d),.bool false,.int .i64 0,.int .i64 0] 226 (b:=w2.heap.size) rfl):p:=h
theorem q432908 (h:p:=by
 go_wp2_with fail;go_ret;exact⟨ret_bool HF.out.symm,hb8⟩):p:=h
theorem q8ff3fd (h:p:=by
 clear zm;have hne:((unpE b:Int) != 0)=true:=by simpa using hE
 have hne2:((unpE b:Int) == 0)=false:=by simpa using hE
 generalize unpE b=er at *;generalize unpK b=k at *;generalize unpL b=l at *;clear hE;go_enter Tryz.func96,Tryz.ntmps96;go_wp2_with fail;refine hun.mono ?_;rintro e w1 ⟨v1,rfl,_,hb1⟩;have BX:=BX.step hb1;have g0:=BX.cell 0 0 rfl rfl;have g1:=BX.cell 0 1 rfl rfl;have f0:=BX.frozen 0 0 rfl;have f1:=BX.frozen 0 1 rfl;go_wp2_with fail;refine bodyPost_ret (v:=.tuple #[.agg #[.bool false,.slice none 0 0],.int .i64 er]) (by simp[results,Tryz.results96,go_sem,g0,g1]) rfl (getpost_none rfl ?_);exact(((below_then hB hb1).setCell (Nat.le_refl _) _).setCell (Nat.le_refl _) _)):p:=h
theorem q8ed409 (h:p:=by
 clear zm;rw[hE] at hun;have SH:=fun W=>shapes_any W
 have hkl:=(unpK b).toNat_lt;generalize (unpL b)=l at *;generalize hkd:(unpK b).toNat=kd at *;have hge:(decide ((kd:Int)≥3))=true:=by simp;omega
 have hge2:(decide ((3:Int)≤(kd:Int)))=true:=by simp;omega
 have hge3:(decide (3≤kd))=true:=by simp;omega
 unfold UnpPost at hun;rw[hkd] at hun;clear hE hkd hk;go_enter Tryz.func96,Tryz.ntmps96;go_wp2_with fail;refine hun.mono ?_;rintro e w1 ⟨v1,rfl,_,hb1⟩;have BX:=BX.step hb1;have hb:=below_then hB hb1;go_wp2_with fail;refine(SH _).mono ?_;rintro e w2 ⟨bs,rfl,hs2,hb2⟩;have BX:=BX.step hb2;have hb:=below_then hb hb2;have g0:=BX.cell 0 0 rfl rfl;have g1:=BX.cell 0 1 rfl rfl;have f0:=BX.frozen 0 0 rfl;have f1:=BX.frozen 0 1 rfl;go_wp2_with fail;refine bodyPost_ret (v:=.tuple #[.agg #[.bool false,.slice none 0 0],.int .i64 11]) (by simp[results,Tryz.results96,go_sem,g0,g1]) rfl (getpost_none rfl ?_);exact((hb.setCell (Nat.le_refl _) _).setCell (Nat.le_refl _) _)):p:=h
theorem qb0b149 (h:p:=by
 clear zm;have hmany:=unp_many b;have hcl:=unp_cell b hE;have hlk:leafK b=true:=by rw[leafK,hk];rfl
 have hdec:(decide ((unpK b).toNat≤2))=true:=by rw[hk];rfl
 have hgE:getNE b=if (match decL true (unpL b) with|some l=>nodeB true l|none=>false) then 0 else 11:=by
  rw[getNE,if_neg (by rw[hE];simp),getNB,hdec,entN,hlk];rfl
 have hgL:getNL b=if getNE b=0 then (decL true (unpL b)).getD [] else []:=by rw[getNL,entN,hlk]
 have hgF:getNF b=if getNE b=0 then true else false:=by rw[getNF,hlk]
 rw[hE,hk] at hun;have SH:=fun W=>shapes_any W
 generalize unpL b=cl at *;generalize getNE b=gE at *;generalize getNL b=gL at *;generalize getNF b=gF at *;have HE:=Hd hgE;have HL:=Hd hgL;have HF:=Hd hgF;have HC:=Hd hcl;have hun:Calls Tryz.prog 138 #[.slice a n cap] (w.alloc (.cells #[.bool false,.slice none 0 0] 205)) fun e w'=>∃v,e=.returned (.tuple #[.int .u8 1,v,.int .i64 0])∧OwnBss w' (w.alloc (.cells #[.bool false,.slice none 0 0] 205)).heap.size v cl∧Below (w.alloc (.cells #[.bool false,.slice none 0 0] 205)).heap.size (w.alloc (.cells #[.bool false,.slice none 0 0] 205)) w':=hun
 have zm:=Mk.i 556736;exact qda4906):p:=h
theorem qe431fb (h:p:=by
 clear zm;have hmany:=unp_many b;have hcl:=unp_cell b hE;have hlk:leafK b=false:=by rw[leafK,hk];rfl
 have hdec:(decide ((unpK b).toNat≤2))=true:=by rw[hk];rfl
 have hgE:getNE b=if (match decL false (unpL b) with|some l=>nodeB false l|none=>false) then 0 else 11:=by
  rw[getNE,if_neg (by rw[hE];simp),getNB,hdec,entN,hlk];rfl
 have hgL:getNL b=if getNE b=0 then (decL false (unpL b)).getD [] else []:=by rw[getNL,entN,hlk]
 have hgF:getNF b=if getNE b=0 then false else false:=by rw[getNF,hlk]
 rw[hE,hk] at hun;have SH:=fun W=>shapes_any W
 generalize unpL b=cl at *;generalize getNE b=gE at *;generalize getNL b=gL at *;generalize getNF b=gF at *;have HE:=Hd hgE;have HL:=Hd hgL;have HF:=Hd hgF;have HC:=Hd hcl;have hun:Calls Tryz.prog 138 #[.slice a n cap] (w.alloc (.cells #[.bool false,.slice none 0 0] 205)) fun e w'=>∃v,e=.returned (.tuple #[.int .u8 2,v,.int .i64 0])∧OwnBss w' (w.alloc (.cells #[.bool false,.slice none 0 0] 205)).heap.size v cl∧Below (w.alloc (.cells #[.bool false,.slice none 0 0] 205)).heap.size (w.alloc (.cells #[.bool false,.slice none 0 0] 205)) w':=hun
 have zm:=Mk.i 996156;exact qda4906):p:=h
theorem q53920b (h:p:=by
 have hB:=below_one w (.cells #[.bool false,.slice none 0 0] 205);have BX:=(Boxes.nil w).alloc #[.bool false,.slice none 0 0] 205 rfl;have hun:=unpack_any a n cap b _ (h.below (Nat.le_refl _) hB) (hh.below (Nat.le_refl _) hB)
 first|exact Mk.go 434109 zm q8ff3fd|exact Mk.go 360393 zm q8ed409|exact Mk.go 579721 zm qb0b149|exact Mk.go 955003 zm qe431fb):p:=h
theorem q851152 (h:p:=by
 clear zm;have C:=rall_any (h.agree (AgreeF.of_below hB0)) hB hb;have c0:=hX0.cell 0 0 rfl rfl;have c1:=hX0.cell 0 1 rfl rfl;have c2:=hX0.cell 0 2 rfl rfl;have HB0:=Hd hB0;show Calls _ _ #[.agg #[.int .i64 t.page,.bool t.isLeaf,.slice xa xn xc]] _ _;generalize t.page=tp at *;generalize t.isLeaf=tl at *;clear h hB hb hB0 hX0;go_enter Tryz.func130,Tryz.ntmps130;go_wp2_with fail;refine C.mono ?_;rintro e w1 ⟨rfl,hb1⟩;have HB1:=Hd (HB0.out.trans (hb1.mono HB0.out.size));have S:=sorted_any (w:=w1) (a:=none) (n:=0) (cap:=0) (l:=[]) ⟨rfl,by simp,by unfold maxLen;omega,fun _=>rfl,.inl rfl⟩ Rises.nil (by omega);clear C hb1;go_wp2_with fail;refine S.mono ?_;rintro e w2 ⟨v,rfl,ho,hb2⟩;obtain⟨a,c,rfl,hrow⟩:=Row.of_own (l:=[]) ho;have HB2:=Hd (HB1.out.trans (hb2.mono HB1.out.size));have HROW:=Hd hrow;clear S hb2 ho hrow;go_wp2_with fail;go_ret;exact⟨a,c,rfl,HROW.out,HB2.out⟩):p:=h
theorem q6d5491 (h:p:=by
 clear zm;obtain⟨i0,hi0,hz0,hz1,hz2⟩:=info_parts infoI;have HSB:=Hd (show wb.heap.size=w.heap.size+1 by rw[←hwb];simp);have hmc:=hat.2.1;have hcm:=hat.2.2.1;unfold maxLen at hcm;obtain⟨v1,w1,hr1,ho1,hg1,hv1⟩:=run_append_row (P:=Tryz.prog) (w:=wb) wb.heap.size 35 3 i0 _ 8 Tryz.underlying35 hi0 hz0 hz1 hz2 rfl (own_nil wb _ 1 _) (hat.below (Nat.le_refl _) hB0) (by unfold maxLen;omega) (by omega) (Nat.le_refl _);simp only[List.nil_append,Nat.zero_add] at ho1;obtain⟨a1,c1',rfl,_⟩:=own_slice ho1;have hb1:Below w.heap.size w w1:=hB0.grown hg1 hB0.size (fun k hk=>by cases hk);have hx1:=hX0.grown hg1 (by intro q hq e;cases e);have e0:=hx1.cell 0 0 rfl rfl;have e1:=hx1.cell 0 1 rfl rfl;have e2:=hx1.cell 0 2 rfl rfl;have C:=rpages_any (h.agree (AgreeF.of_below hb1)) hB hb;have H:=Hd h;have HX1:=Hd hx1;have HB1:=Hd hb1;have HO1:=Hd ho1;have HI:=Hd (show Tryz.prog.info? 3=some i0∧i0.zero=some (.int .i64 0)∧i0.size=1∧i0.bytes=8 from⟨hi0,hz0,hz1,hz2⟩);have HR:=Hd hr;have HP:=Hd hp;have HBR:=Hd hB;have HBD:=Hd hb;have HC:=Hd hc;have HF:=Hd hf;have HLM:=Hd (show at_.length=m from hat.1);show Calls _ _ #[.agg #[.int .i64 t.page,.bool t.isLeaf,.slice xa xn xc],.slice a m cap] _ _;obtain⟨tp,htp⟩:∃x,t.page=x:=⟨_,rfl⟩
 obtain⟨tl,htl⟩:∃x,t.isLeaf=x:=⟨_,rfl⟩
 simp only[htp,htl] at *;clear h hB hb hc hr hp hf hB0 hX0 ho1 hg1 hv1 hb1 hx1 hat hi0 hz0 hz1 hz2 htp htl;go_enter Tryz.func90,Tryz.ntmps90;go_upto_region 3 with(at_builtin;refine wpList_append_run rfl _ _ _ _ rfl rfl rfl hr1 ?_)
 go_wp2_with fail;refine C.mono ?_;rintro e w2 ⟨a2,c2',rfl,hrow2,hb2⟩;have hb2w:=HB1.out.trans (hb2.mono HB1.out.size);obtain⟨hi0,hz0,hz1,hz2⟩:=HI.out;have hsb:=HSB.out;have hb1s:=HB1.out.size;have hbs2:wb.heap.size≤w2.heap.size:=by have:=hb2.size;have:=HX1.out.lt 0 rfl;have h8:w.heap.size<w1.heap.size:=this;omega
 obtain⟨v3,w3,hr3,ho3,hg3,hv3⟩:=run_append_row (P:=Tryz.prog) (w:=w2) wb.heap.size 35 3 i0 _ 8 Tryz.underlying35 hi0 hz0 hz1 hz2 rfl (own_held HO1.out hb2) hrow2 (by unfold maxLen;omega) (by omega) hbs2;simp only[Nat.add_zero,List.map_nil,List.append_nil] at ho3;obtain⟨a3,c3,rfl,_⟩:=own_slice ho3;have hge1:∀k,(Value.slice a1 m c1').ownBlock=some k→w.heap.size+1≤k:=fun k hk=>by have:=own_ge HO1.out k hk;omega
 have hb3:Below w.heap.size w w3:=hb2w.grown hg3 hb2w.size (fun k hk=>by have:=hge1 k hk;omega);have hx3:=(HX1.out.step hb2).grown hg3 (by intro q hq e;simp at hq;subst hq;have h8:w.heap.size+1≤w.heap.size:=hge1 _ e;omega);obtain⟨a',c',e',hrow3⟩:=Row.of_own ho3;cases e';have S:=sorted_any hrow3 HR.out (by omega);have HB3:=Hd hb3;have HX3:=Hd hx3;clear hi0 hz0 hz1 hz2 ho3 hg3 hv3 hb3 hx3 hrow3 hb2 hrow2 hb2w C hbs2 hge1 hsb;go_upto_region 4 with(at_builtin;refine wpList_append_run rfl _ _ _ _ rfl rfl rfl hr3 ?_)
 go_wp2_with fail;refine S.mono ?_;rintro e w4 ⟨v4,rfl,ho4,hb4⟩;obtain⟨a4,c4,rfl,hrow4⟩:=Row.of_own ho4;have HB4:=Hd (HB3.out.trans (hb4.mono HB3.out.size));have HX4:=Hd (HX3.out.step hb4);have HROW4:=Hd hrow4;have hc4:=hrow4.2.1;have hc4m:=hrow4.2.2.1;unfold maxLen at hc4m;clear S ho4 hb4 hrow4;go_wp2_with fail
 go_loopw [7] (fun s7 wx=>∃i:Nat,i≤m∧s7=.int .i64 i∧∃q,wx=w4.drewN q) (fun s _=>m-(intOf s).toNat)
 case atStart=>exact⟨0,Nat.zero_le _,rfl,0,rfl⟩
 case round=>
  obtain⟨i,hi,rfl,q,rfl⟩:=hrel;have iw2:IntKind.i64.wrap ((i:Int)+1)=(i:Int)+1:=by simp[IntKind.wrap,IntKind.signed,IntKind.bits];omega
  by_cases hlt:i<m
  ·obtain⟨b,off,rfl,hbl,hcc⟩:=HROW4.out.2.2.2.2.resolve_left (by omega)
   obtain⟨x,hx⟩:∃x,at_[i]? = some x:=⟨at_[i]'(by have:=HLM.out;omega),by simp⟩
   have k0:=hcc i hlt;rw[hx] at k0;have k0:w4.cell? ⟨b,off+i,none⟩=some (.int .i64 x):=k0;have hpx:=HP.out x (List.mem_of_getElem? hx);have d1:decide (x<2)=false:=decide_eq_false (by omega);have d2:decide (999<x)=false:=decide_eq_false (by omega);have q1:decide ((i:Int)<(m:Int))=true:=decide_eq_true (by omega);have q2:decide (i<m)=true:=decide_eq_true hlt
   by_cases hi0:i=0
   ·subst hi0
    have q3:decide ((0:Int)<((0:Nat):Int))=false:=by decide
    rw[Nat.add_zero] at k0;have q5:decide ((0:Int)<(m:Int))=true:=decide_eq_true (by omega);have q6:decide (0<m)=true:=decide_eq_true hlt;clear hcc hx;go_wp2_with fail
    go_quiet (fail)
    go_wp2
    go_roundw
    case rel=>exact⟨1,by omega,rfl,q+nq,rfl⟩
    case measure=>simp[intOf];omega
   ·obtain⟨y,hy⟩:∃y,at_[i-1]? = some y:=⟨at_[i-1]'(by have:=HLM.out;omega),by simp⟩
    have k1:=hcc (i-1) (by omega);rw[hy] at k1;have k1:w4.cell? ⟨b,off+(i-1),none⟩=some (.int .i64 y):=k1;have hyx:=HR.out (i-1) i y x (by omega) hy hx;have d3:(x == y)=false:=by simp;omega
    have q3:decide ((0:Int)<(i:Int))=true:=decide_eq_true (by omega);have q3':decide (0<i)=true:=decide_eq_true (by omega);have iw3:IntKind.i64.wrap ((i:Int)-1)=(i:Int)-1:=by simp[IntKind.wrap,IntKind.signed,IntKind.bits];omega
    have t1:((i:Int)-1).toNat=i-1:=by omega
    have t2:decide ((0:Int)≤(i:Int)-1)=true:=decide_eq_true (by omega);have t3:decide ((i:Int)-1<(m:Int))=true:=decide_eq_true (by omega);have t4:(0:Int)≤(i:Int)-1:=by omega
    have t5:(i:Int)-1<(m:Int):=by omega
    clear hcc hx hy;go_wp2_with fail
    go_quiet (fail)
    go_wp2
    go_roundw
    case rel=>exact⟨i+1,by omega,by go_num,q+nq,rfl⟩
    case measure=>simp[intOf];omega
  ·have q1:decide ((i:Int)<(m:Int))=false:=decide_eq_false (by omega)
   have q2:decide (i<m)=false:=decide_eq_false hlt;have hbq:Below w4.heap.size w4 (w4.drewN q):=below_drewN (Below.refl _ _) q;have hBq:=HB4.out.trans (hbq.mono HB4.out.size);have hXq:=HX4.out.step hbq;generalize w4.drewN q=W at *;have c0:=hXq.cell 0 0 rfl rfl;have c1:=hXq.cell 0 1 rfl rfl;have c2:=hXq.cell 0 2 rfl rfl;have C1:=rcheck_any (H.out.agree (AgreeF.of_below hBq)) HBD.out hn;rw[HC.out] at C1;have HBq:=Hd hBq;have HXq:=Hd hXq;clear hBq hXq hbq;go_wp2_with fail;refine C1.mono ?_;rintro e w5 ⟨rfl,hb5⟩;have hB5:=HBq.out.trans (hb5.mono HBq.out.size);have hX5:=HXq.out.step hb5;have e0:=hX5.cell 0 0 rfl rfl;have e1:=hX5.cell 0 1 rfl rfl;have e2:=hX5.cell 0 2 rfl rfl;have C2:=rfresh_any (H.out.agree (AgreeF.of_below hB5)) HBR.out HBD.out (by have:=HF.out;omega);have q5:decide (((freshN n t:Nat):Int)≤(m:Int))=true:=decide_eq_true (by have:=HF.out;omega);have q6:decide (freshN n t≤m)=true:=decide_eq_true HF.out;have HB5:=Hd hB5;clear hB5 hX5 hb5 C1;go_wp2_with fail;refine C2.mono ?_;rintro e w6 ⟨rfl,hb6⟩;have HB6:=Hd (HB5.out.trans (hb6.mono HB5.out.size));clear hb6 C2;go_wp2_with fail;go_ret;exact⟨rfl,HB6.out⟩):p:=h
theorem q58f2a0 (h:p:=by
 obtain⟨xa,xn,xc,rfl⟩:=RNodeOn.open_pos h;obtain⟨wb,hwb⟩:∃x,w.alloc (.cells #[.int .i64 t.page,.bool t.isLeaf,.slice xa xn xc] 27)=x:=⟨_,rfl⟩
 have hB0:Below w.heap.size w wb:=by rw[←hwb];exact Below.al (Below.refl _ _)
 have hX0:Boxes wb [(w.heap.size,[.int .i64 t.page,.bool t.isLeaf,.slice xa xn xc])]:=by rw[←hwb];exact(Boxes.nil w).alloc #[.int .i64 t.page,.bool t.isLeaf,.slice xa xn xc] 27 rfl
 first|exact Mk.go 720722 zm q851152|exact Mk.go 165073 zm q6d5491):p:=h
theorem q648619 (h:p:=by
 rw[List.map_append,List.pairwise_append];refine⟨hp,hq,fun x hx y hy=>?_⟩;obtain⟨c,hc,rfl⟩:=List.mem_map.1 hx;obtain⟨d,hd,rfl⟩:=List.mem_map.1 hy;exact klt_le ((hl c hc).2.2.1.resolve_left hk.1) (hm d hd).2.1):p:=h
theorem qf4a7ef (h:p:=by
 have HR:Hid (R=none):=Hd (by rw[←HDK.out];exact depK_none HC1.out (by rw[HC2.out,HCK.out];exact HD.out));have hdi:depI none = -1:=rfl;rw[hdi];clear hdi;exact q42d8b3):p:=h
theorem q341848 (h:p:=by
 refine bodyPost_ret (v:=.tuple #[.agg #[.bool false,.slice none 0 0],.int .i64 11]) (by simp[results,Tryz.results101,go_sem,g2,g3]) rfl (rgetpost_none rfl ?_);exact((hbb5.setCell (Nat.le_refl _) _).setCell (Nat.le_refl _) _)):p:=h
theorem qe2b1f7 (h:p:=by
 clear h0 hbf;go_wp2_with fail;go_roundw
 case rel=>exact⟨i+1,d+1,by omega,by go_num,by go_num,by omega,HT2.out,HR.out,HBQ.out,HXQ.out.sub (fun p hp=>List.mem_cons_of_mem _ hp)⟩
 case measure=>simp[intOf];omega):p:=h
theorem q564ce6 (h:p:=by
 obtain⟨x7,hx71,hx72⟩:=Option.map_eq_some_iff.1 hy7;subst hx72;have ek:x7.1=kp:=by rw[←hkp,hip];simp[keysOf,hx71]
 rw[←ek];exact((below_via HB.out hW).cell (p:=⟨b,off+ip*4,none⟩) hbb7).trans c07):p:=h
theorem qb98405 (h:p:=by
 go_wp2_with fail;go_meet;exact⟨rfl,rfl⟩):p:=h
theorem q810b6c (h:p:=by
 clear zm;rw[show(l.take 4).length=4 by simp[hl],decide_eq_false hs] at hbe;generalize crcOf (l.drop 4)=s at *;have hne:(beBytes s 4 != l.take 4)=true:=by simpa using hbe
 have hw64:(s:Int) % 18446744073709551616=(s:Int):=by omega
 have hw64':IntKind.u64.wrap (s:Int)=(s:Int):=by simp[IntKind.wrap,IntKind.signed,IntKind.bits];omega
 have hn:=refNum_ok s 4 w.drew (by omega) (by omega) (by omega);have hst:=strOf_toList;clear hl hs;go_enter Tryz.func146,Tryz.ntmps146;go_wp2_with fail
 go_region_with (first|(go_at_call 70;refine hc.mono ?_;rintro e w1 ⟨rfl,rfl⟩)|(go_at_call 67;refine hn.mono ?_;rintro e w2 ⟨rfl,hb2⟩))
 all_goals
  have hB:=((Below.refl w.heap.size w).drew).trans hb2
  go_wp2
  go_ret3
  exact⟨_,rfl,World.ownsRow_nil _ _ _ _,hB⟩):p:=h
theorem q1f9496 (h:p:=by
 clear zm;rw[show(l.take 4).length=4 by simp[hl],decide_eq_true hs] at hbe;generalize crcOf (l.drop 4)=s at *;have hne:(beBytes s 4 != l.take 4)=false:=by simpa using hbe
 have hw64:(s:Int) % 18446744073709551616=(s:Int):=by omega
 have hw64':IntKind.u64.wrap (s:Int)=(s:Int):=by simp[IntKind.wrap,IntKind.signed,IntKind.bits];omega
 have hn:=refNum_ok s 4 w.drew (by omega) (by omega) (by omega);have hst:=strOf_toList;have HL:=Hd hl;have h5:=strOf_get l 5 (by rw[HL.out];omega);have h4:=strOf_get l 4 (by rw[HL.out];omega);change _=kindS l at h4;have hn5:(l[5]?.getD 0).toNat=numS l:=rfl;have hn256:numS l<256:=(l[5]?.getD 0).toNat_lt;have hn0:IntKind.i64.wrap ((numS l:Nat):Int)=((numS l:Nat):Int):=IntWalk.i64_in _ (by omega);have HCUT:=Hd (show ∀k,(strOf l).extract (slotS l k) (endS l k)=strOf (cellS l k) from fun k=>strOf_extract _ _ _);have HGET:=Hd (show ∀k (h:k<122),(strOf l)[6+k]'(by rw[strOf_size,HL.out];omega)=l[6+k]?.getD 0 from fun k h=>strOf_get l (6+k) (by rw[HL.out];omega));obtain⟨i0,hi,hz0,hz1,hz2⟩:=info_parts info_str;clear hl hs;go_enter Tryz.func146,Tryz.ntmps146;go_wp2_with fail
 go_region_with (first|(go_at_call 70;refine hc.mono ?_;rintro e w1 ⟨rfl,rfl⟩)|(go_at_call 67;refine hn.mono ?_;rintro e w2 ⟨rfl,hb2⟩))
 all_goals
  have hB:=((Below.refl w.heap.size w).drew).trans hb2;clear hc hn hb2 hx1 hx2 hbe;go_wp2_with fail;clear hn0
  go_loopw [6,7,8] (fun e v i wr=>∃k:Nat,k≤numS l∧k≤122∧i=.int .i64 k∧e=.int .i64 ((endS l k:Nat):Int)∧okSC l k=true∧wr.ownsRow w.heap.size 9 1 v k ((cutS l k).map sv)∧Below w.heap.size w wr) (fun _ _ i _=>numS l-(intOf i).toNat)
  case atStart=>exact⟨0,Nat.zero_le _,by omega,rfl,rfl,rfl,World.ownsRow_nil _ _ _ _,hB⟩
  case round=>
   obtain⟨k,hk,hk2,rfl,rfl,hok,hown,hb⟩:=hrel
   by_cases hlt:k<numS l
   ·by_cases hlt2:k<122
    ·have hget:=HGET.out k hlt2
     have hq:slotS l k=(l[6+k]?.getD 0).toNat:=rfl;have hend:=okS_end l k hok;have hsl:=slotS_lt l k;have hes:endS l (k+1)=slotS l k:=rfl;have hok1:=okS_succ l k;rw[hok,Bool.true_and] at hok1
     by_cases hle:slotS l k≤endS l k
     ·have hcc:=HCUT.out k
      have hcut:=Hd (cutS_succ l k);have HES:=Hd hes;have HOK:Hid (okSC l (k+1)=true):=Hd (by rw[hok1];simpa using hle);clear hes hok1 hok;generalize slotS l k=q at *;generalize endS l k=e at *;generalize cellS l k=c at *;have hle2:¬(e:Int)<(q:Int):=by omega
      have hqq:(l[6+k]?.getD 0).toNat=q:=hq.symm;clear hq;generalize l[6+k]?.getD 0=by1 at *;have hown1:=hown.alloc (.cells #[.string (strOf c)] 9);have hcl:(wr.alloc (.cells #[.string (strOf c)] 9)).cell? ⟨wr.heap.size,0,none⟩=some (sv c):=by
       simp only[World.cell?,World.alloc_heap_new];rfl
      have HSZ:=Hd hb.size;have hB1:=Hd (hb.alloc hb.size (.cells #[.string (strOf c)] 9));have HG:=Hd (own_ge hown);have hwq:IntKind.i64.wrap (q:Int)=(q:Int):=IntWalk.i64_in _ (by omega);clear hown hb
      go_wp2_with (at_builtin;refine wpList_append_one rfl _ _ 46 rfl w.heap.size 9 i0 _ 16 Tryz.underlying46 hi hz0 hz1 hz2 rfl _ k _ rfl hown1 wr.heap.size rfl (sv c) hcl rfl (by unfold maxLen;omega) (by omega) (by have:=HSZ.out;simp;omega) ?_)
      intro v2 w5 hown2 hg;have HB:=Hd (hB1.out.grown hg (by have:=HSZ.out;simp;omega) (fun j e=>HG.out j e));clear hg
      go_wp2
      go_roundw
      case rel=>exact⟨k+1,by omega,by omega,by go_num,by rw[HES.out],HOK.out,by rw[hcut.out,List.map_append];exact hown2,HB.out⟩
      case measure=>simp[intOf];omega
     ·have hq':(l[6+k]?.getD 0).toNat=slotS l k:=rfl
      have HR:=Hd (unpB_slot l k (by rw[hok1];simpa using hle) (by omega));clear hes hok1 hok hown hend hq;generalize slotS l k=q at *;generalize endS l k=e at *;generalize l[6+k]?.getD 0=by1 at *;have hle2:(e:Int)<(q:Int):=by omega
      have hwq:IntKind.i64.wrap (q:Int)=(q:Int):=IntWalk.i64_in _ (by omega);go_wp2_with fail
      go_ret3
      rw[RUnpOk,HR.out];exact⟨_,rfl,World.ownsRow_nil _ _ _ _,hb⟩
    ·have HR:=Hd (unpB_big l (by omega))
     obtain rfl:k=122:=by omega
     go_wp2_with fail
     go_ret3
     rw[RUnpOk,HR.out];exact⟨_,rfl,World.ownsRow_nil _ _ _ _,hb⟩
   ·obtain rfl:k=numS l:=by omega
    have HMIN:=Hd (show min (numS l) 122=numS l from Nat.min_eq_left hk2);have hcl:=cutS_lens l (numS l) HL.out hok;have hcn:=cutS_length l (numS l);have hgen:=hown;obtain⟨ao,co,rfl,hss⟩:=Strs.of_own hown;have hpk:=rpack_any (kindS l) ao (numS l) co (cutS l (numS l)) wr hss (by omega);have hout:=Hd (show wr.ownsRow w.heap.size 9 1 (.slice ao (numS l) co) (cutS l (numS l)).length ((cutS l (numS l)).map sv) by rw[hcn];exact hgen);have HOKK:=Hd hok;clear hcl hcn hok hown hgen hss
    by_cases hf:fits (kindS l) (cutS l (numS l))=true
    ·have hpv:packV (kindS l) (cutS l (numS l))=pageOf (kindS l) (cutS l (numS l)):=by rw[packV,if_pos hf]
     have hpe:packE (kindS l) (cutS l (numS l))=0:=by rw[packE,if_pos hf]
     rw[hpv,hpe] at hpk;have HR:=Hd (show unpB l=(pageOf (kindS l) (cutS l (numS l)) == l) by rw[unpB,HMIN.out,HOKK.out,hf,Bool.true_and,Bool.true_and]);clear hpv hpe hf;go_wp2_with fail;refine hpk.mono ?_;rintro e w5 ⟨rfl,hb5⟩;have hB5:=below_then hb hb5;have HOUT5:=Hd (own_below hout.out (Nat.le_refl _) hb5);cases hq:(pageOf (kindS l) (cutS l (numS l)) == l)
     ·have hq2:(pageOf (kindS l) (cutS l (numS l)) != l)=true:=by rw[bne,hq];rfl
      have HQ:=Hd (HR.out.trans hq);clear hpk hb hb5 HR;generalize pageOf (kindS l) (cutS l (numS l))=pg at *;go_wp2_with fail
      go_ret3
      rw[RUnpOk,HQ.out];exact⟨_,rfl,World.ownsRow_nil _ _ _ _,hB5⟩
     ·have hq2:(pageOf (kindS l) (cutS l (numS l)) != l)=false:=by rw[bne,hq];rfl
      have HQ:=Hd (HR.out.trans hq);clear hpk hb hb5 HR;generalize pageOf (kindS l) (cutS l (numS l))=pg at *;go_wp2_with fail
      go_ret3
      rw[RUnpOk,HQ.out,HMIN.out];exact⟨_,rfl,HOUT5.out,hB5⟩
    ·have hpe:packE (kindS l) (cutS l (numS l))=1:=by rw[packE,if_neg hf]
     have hpv:packV (kindS l) (cutS l (numS l))=[]:=by rw[packV,if_neg hf]
     have HR:=Hd (show unpB l=false by rw[unpB,HMIN.out,Bool.eq_false_iff.2 hf,Bool.false_and,Bool.and_false]);rw[hpv,hpe] at hpk;clear hpv hpe hf;go_wp2_with fail;refine hpk.mono ?_;rintro e w5 ⟨rfl,hb5⟩;have hB5:=below_then hb hb5;clear hpk hb hb5;go_wp2_with fail
     go_ret3
     rw[RUnpOk,HR.out];exact⟨_,rfl,World.ownsRow_nil _ _ _ _,hB5⟩):p:=h
theorem q8393ed (h:p:=by
 have hsz:(strOf l).size=128:=by rw[strOf_size,hl]
 have hx1:(strOf l).extract 4 128=strOf (l.drop 4):=by rw[strOf_extract,List.take_of_length_le (by simp[hl])]
 have hx2:(strOf l).extract 0 4=strOf (l.take 4):=by rw[strOf_extract];rfl
 have hc:=refOf_any (l.drop 4) w.drew (by simp[hl]);have hx:=crcOn_lt 0 (l.drop 4);change crcOf _<_ at hx;have hbe:=be_iff (l.take 4) (crcOf (l.drop 4)) (by simp[hl];omega)
 first|exact Mk.go 457068 zm q810b6c|exact Mk.go 69654 zm q1f9496):p:=h
theorem q21aee6 (h:p:=by
 rintro e w' ⟨rfl,rfl⟩
 go_wp2
 go_ret2
 exact⟨.inr ⟨by decide,rfl⟩,rfl⟩):p:=h
theorem q7b2129 (h:p:=by
 have hx:l.take k=l:=List.take_of_length_le (by rw[hll.out];exact Nat.le_refl _);rw[hx];generalize hq:k+lens l=q at *;have HQ:=Hd hq;clear hq
 go_wp2
 go_ret;exact⟨ret_int (by have:=HQ.out;omega),rfl⟩):p:=h
theorem q11f35a (h:p:=by
 go_wp2
 go_ret;exact⟨_,rfl,rfl,hgr,hnew⟩):p:=h
theorem q6f4561 (h:p:=by
 have:=List.getElem?_eq_some_iff.1 hen;rw[←this.2,List.drop_eq_getElem_cons]):p:=h
theorem qda1aad (h:p:=by
 rw[←hP]
 by_cases h:0<i
 ·exact .inl ⟨decide_eq_true (by omega),decide_eq_true (by omega),decide_eq_true h⟩
 ·exact .inr ⟨decide_eq_false (by omega),decide_eq_false (by omega),decide_eq_false h⟩):p:=h
theorem qc0a764 (h:p:=by
 rcases hv with hv|hv
 ·exact .inl hv
 ·exact .inr fun g e=>by rw[hv] at e;have:=Option.some.inj e;omega):p:=h
theorem qce611d (h:p:=by
 clear hlow hLB HE;go_wp2_with fail;refine bodyPost_ret (v:=.agg #[.int .i64 p,.bool false,.slice (some ⟨b,off,none⟩) m c]) (by simp only[results,Tryz.results127];simp[go_sem,t0,t1,t2]) rfl HE1.out):p:=h
theorem qcbdfaf (h:p:=by
 have HQ:=Hd hq0;clear hq0;go_enter Tryz.func181,Tryz.ntmps181;go_wp2_with fail;refine(N _).mono ?_;rintro e w2 ⟨rfl,rfl⟩;go_wp2_with fail;go_ret;exact⟨by rw[HZ.out];rfl,Below.al (Below.refl _ _)⟩):p:=h
theorem q258c8b (h:p:=by
 clear zm;have C:=cget_any (hd1.below (Nat.le_trans hT hb1.size) hb0).one (hd1.below (Nat.le_trans hT hb1.size) hb0).half r vp vs hp;obtain⟨G,hG⟩:∃G,getDC d r vp vs=G:=⟨_,rfl⟩
 have hat:=getDC_at d r vp vs;have hval:valL d r seen ⟨vd,true,vs,vp⟩=if G.2.2≠0 then .error G.2.2 else match seeL seen G.2.1 with
  | none=>.error 11
  | some s=>.ok (s,⟨G.1,G.2.1⟩):=by
  unfold valL;rw[if_neg (by simp),hG]
  rfl
 rw[hG] at C hat;have HVAL:=Hd hval;have HAT:=Hd hat;have HX1:=Hd hx1;have HD1:=Hd hd1;have HB1:=Hd hb1;have HH:=Hd h;obtain⟨Gs,Gl,Ge⟩:=G;clear hval hat hx1 hd1 hb1 h hG c0 c1 o2 o3;go_enter Tryz.func97,Tryz.ntmps97;go_wp2_with fail
 go_region_held3 (fun W=>Below w1.heap.size w1 W) (with_reducible assumption) (first|(go_at_call 141;refine C.mono ?_;rintro e wx ⟨vx,rfl,hox,hbx⟩;have hBx:Below w1.heap.size w1 wx:=below_then hb0 hbx))
 have HBX:=Hd hBx;obtain⟨av,cv,rfl,_⟩:=own_slice hox;have HOX:=Hd hox;clear C cA cB cC cD hox hbx hBx hb0
 by_cases hE:Ge=0
 ·subst hE
  have hdx:=HD1.out.below (Nat.le_trans hT HB1.out.size) HBX.out;obtain⟨a',c',e',hrow⟩:=Row.of_own HOX.out;cases e';have hsz:=HBX.out.size;have hsz1:=HB1.out.size;have S5:=see_any (ps:=Gl) hdx (by have h5:Gl.length≤5:=HAT.out.2;omega) (fun p hq=>by
   rcases HAT.out.1 p hq with e|e
   ·rw[e];exact hp
   ·have:=pgC_lt e;unfold I64;omega) hrow (fun x ex=>by
   have h6:w1.heap.size≤x.block:=own_ge HOX.out x.block (by rw[ex];rfl);omega)
  go_wp2_with fail;refine(must_ok _).mono ?_;rintro e wy ⟨rfl,rfl⟩;go_wp2_with fail;refine S5.mono ?_;rintro e w4 ⟨ho4,hres⟩;cases hs:seeL seen Gl with
  | none=>
   rw[hs] at hres;have hres:e=.panicked (errP 11):=hres;subst hres;refine⟨rfl,?_⟩;rw[HVAL.out];refine⟨below_only (HB1.out.trans (HBX.out.mono hsz1)) ho4,?_⟩;rw[if_neg (by simp),hs]
  | some s=>
   rw[hs] at hres;obtain⟨rfl,hd4⟩:=hres;have hx4:=(HX1.out.step HBX.out).only ho4 (by intro q hq;simp at hq;rcases hq with rfl|rfl<;>simp<;>omega);have hsz4:=ho4.size;have f0:=hx4.frozen 0 0 rfl;have f1:=hx4.frozen 0 1 rfl;have k0:=hx4.cell 0 0 rfl rfl;have k1:=hx4.cell 0 1 rfl rfl;have hx5:=(hx4.put 0 (.string (strOf Gs)) (by intro q hq;simp at hq;subst hq;simp)).put 1 (.slice av Gl.length cv) (by intro q hq;simp at hq;subst hq;simp);have z0:=hx5.cell 0 0 rfl rfl;have z1:=hx5.cell 0 1 rfl rfl;have HE:Hid (ValPost T w lb mb da M d r (valL d r seen ⟨vd,true,vs,vp⟩) (.returned (.agg #[.string (strOf Gs),.slice av Gl.length cv])) ((w4.setCell ⟨w.heap.size+1,0,none⟩ (.string (strOf Gs))).setCell ⟨w.heap.size+1,1,none⟩ (.slice av Gl.length cv))):=Hd (by
    have hb5:Below w.heap.size w4 ((w4.setCell ⟨w.heap.size+1,0,none⟩ (.string (strOf Gs))).setCell ⟨w.heap.size+1,1,none⟩ (.slice av Gl.length cv)):=((Below.refl _ _).setCell (by show w.heap.size≤w.heap.size+1;omega) _).setCell (by show w.heap.size≤w.heap.size+1;omega) _;have ho:Only [mb] w w4:=below_only (HB1.out.trans (HBX.out.mono hsz1)) ho4;refine⟨⟨hb5.os.trans ho.1,hb5.tape.trans ho.2.1,hb5.output.trans ho.2.2.1,Nat.le_trans ho.size hb5.size,fun k hk hS=>(hb5.block k hk).trans (ho.block hk hS)⟩,?_⟩;rw[HVAL.out,if_neg (by simp),hs];have hrow4:=row_only hrow ho4 (fun x ex=>by
     have h6:w1.heap.size≤x.block:=own_ge HOX.out x.block (by rw[ex];rfl);omega)
    refine⟨_,rfl,⟨av,_,cv,rfl,?_,?_⟩,hd4.past (hb5.mono hT)⟩
    ·exact row_at hrow4 hb5.size (fun x ex=>by
      have h6:w1.heap.size≤x.block:=own_ge HOX.out x.block (by rw[ex];rfl);have h7:=HX1.out.lt 0 rfl;have h8:w.heap.size+1<w1.heap.size:=h7;exact(Below.heap_setCell _ _ _ x.block (fun e=>by have:x.block=w.heap.size+1:=e;omega)).trans (Below.heap_setCell _ _ _ x.block (fun e=>by have:x.block=w.heap.size+1:=e;omega)))
    ·exact Fa.of_own HOX.out (fun b hb=>Nat.le_trans hsz1 hb))
   clear hx4 hx5 hrow hd4 hdx hs S5;go_wp2_with fail;refine bodyPost_ret (v:=.agg #[.string (strOf Gs),.slice av Gl.length cv]) (by simp[results,Tryz.results97,go_sem,z0,z1]) rfl ?_;exact HE.out
 ·go_wp2_with fail
  refine(must_bad hE _).mono ?_;rintro e wy ⟨rfl,rfl⟩;refine⟨rfl,?_⟩;rw[HVAL.out];refine⟨Only.of_below (HB1.out.trans (HBX.out.mono HB1.out.size)),?_⟩;rw[if_pos hE]):p:=h
theorem qe798b6 (h:p:=by
 clear zm;have C:=crget_any (hd1.below hb0).regs hd1.l9 r vp vs;obtain⟨G,hG⟩:∃G,getDC d r vp vs=G:=⟨_,rfl⟩
 have hat:=(getDC_at d r vp vs).2;have herr:=getDC_err (d:=d) (r:=r) (first:=vp) (size:=vs);have hval:valL d r seen ⟨vd,true,vs,vp⟩=if G.2.2≠0 then .error G.2.2 else match seeL seen G.2.1 with
  | none=>.error 11
  | some s=>.ok (s,⟨G.1,G.2.1⟩):=by
  unfold valL;rw[if_neg (by simp),hG]
  rfl
 rw[hG] at C hat herr;have HVAL:=Hd hval;have HX1:=Hd hx1;have HD1:=Hd hd1;have HB1:=Hd hb1;have HERR:=Hd herr;obtain⟨Gs,Gl,Ge⟩:=G;have hat:Gl.length≤5:=hat;clear hval hx1 hd1 hb1 h hG c0 c1 o2 o3 herr;go_enter Tryz.func102,Tryz.ntmps102;go_wp2_with fail
 go_region_held3 (fun W=>Below w1.heap.size w1 W) (with_reducible assumption) (first|(go_at_call 149;refine C.mono ?_;rintro e wx ⟨vx,rfl,hox,hbx⟩;have hBx:Below w1.heap.size w1 wx:=below_then hb0 hbx))
 have HBX:=Hd hBx;have hsx:=hBx.size;obtain⟨av,cv,rfl,_⟩:=own_slice hox;have HOX:=Hd hox;have hdx:=HD1.out.below HBX.out;have b3:=hdx.box.cell 0 3 rfl rfl;have f3:=hdx.box.frozen 0 3 rfl;obtain⟨w3,hw3⟩:∃x,wx.setCell ⟨sb,3,none⟩ (.int .i64 Ge)=x:=⟨_,rfl⟩
 have hd3:=hdx.err Ge;rw[hw3] at hd3;have HS3:=Hd (show w3.heap.size=wx.heap.size by rw[←hw3];simp);have ho3:Only (RS sb v) wx w3:=by rw[←hw3];exact(Only.refl _ _).set _ _ (RS.mem.2 (.inl rfl))
 have HX3:=Hd ((HX1.out.step HBX.out).only ho3 (by
  intro q hq hm;have hq2:w.heap.size≤q.1:=by simp at hq;rcases hq with rfl|rfl<;>simp
  rcases RS.mem.1 hm with e|e
  ·omega
  ·have:=HVB.out _ e;omega))
 have HD3:=Hd hd3;clear C cA cB cC cD hox hbx hBx hb0 hdx hd3;go_wp2_with fail;obtain⟨a',c',e',hrowx⟩:=Row.of_own HOX.out;cases e';have hgA:∀x,av=some x→w1.heap.size≤x.block:=fun x ex=>own_ge HOX.out x.block (by rw[ex];rfl)
 have hgL:∀x,av=some x→0<Gl.length→x.block<wx.heap.size:=fun x ex h0=>by
  obtain⟨b,off,e1,hb,_⟩:=hrowx.2.2.2.2.resolve_left (by omega);rw[e1] at ex;cases ex;exact hb
 have hAt:∀W,Only (RS sb v) w3 W→Row .i64 W av Gl.length cv Gl:=fun W hW=>by
  have h1:Row .i64 w3 av Gl.length cv Gl:=row_at hrowx ho3.size (fun x ex=>by
   rcases Nat.eq_zero_or_pos Gl.length with h0|h0
   ·rw[←hw3]
    refine Below.heap_setCell _ _ _ x.block (fun e=>?_);have:=hgA x ex;have:=HB1.out.size;have e:x.block=sb:=e;omega
   ·exact ho3.block (hgL x ex h0) (fun hm=>by have:=hgA x ex;have:=HB1.out.size;rcases RS.mem.1 hm with e|e;omega;have:=HVB.out _ e;omega))
  refine⟨h1.1,h1.2.1,h1.2.2.1,h1.2.2.2.1,h1.2.2.2.2.imp id ?_⟩;rintro⟨b,off,rfl,hb,hc⟩;have:=hW.size;exact⟨b,off,rfl,by omega,fun i hi=>(show W.cell? ⟨b,off+i,none⟩=w3.cell? ⟨b,off+i,none⟩ from World.cell?_of_block (hW.block (k:=b) hb (fun hm=>by have h2:w1.heap.size≤b:=hgA _ rfl;have:=HB1.out.size;rcases RS.mem.1 hm with e|e;omega;have:=HVB.out _ e;omega))).trans (hc i hi)⟩
 have HAT:=Hd hAt;have HGA:=Hd hgA;have HGL:=Hd hgL;have HO3:=Hd ho3;clear hAt hgA hgL hrowx ho3 hw3
 go_loopw [8] (fun s8 wr=>∃(i:Nat) (vi:Value),i≤Gl.length∧s8=.int .i64 i∧RLd wr sb a len cap d r vi (seen++Gl.take i) (if Ge=0 then seeE seen (Gl.take i) else Ge)∧Only (RS sb v) w3 wr∧Turn w3 v vi) (fun s _=>Gl.length-(intOf s).toNat)
 case atStart=>exact⟨0,v,Nat.zero_le _,rfl,by
  have h0:(if Ge=0 then seeE seen (Gl.take 0) else Ge)=Ge:=by
   split
   ·rename_i h;rw[h];rfl
   ·rfl
  rw[h0];simpa using HD3.out,Only.refl _ _,Turn.refl _ _⟩
 case round=>
  obtain⟨i,vi,hi,rfl,h1,ho,ht⟩:=hrel;have iw2:IntKind.i64.wrap ((i:Int)+1)=(i:Int)+1:=by simp[IntKind.wrap,IntKind.signed,IntKind.bits];omega
  by_cases hlt:i<Gl.length
  ·have hG0:Ge=0:=Classical.byContradiction fun hc=>by have h9:Gl=[]:=HERR.out hc;rw[h9] at hlt;simp at hlt
   subst hG0;rw[if_pos rfl] at h1;obtain⟨b,off,rfl,hbl,hc⟩:=(HAT.out wr ho).2.2.2.2.resolve_left (by omega);have k0:=hc i hlt;obtain⟨q,hq⟩:∃q,Gl[i]? = some q:=⟨Gl[i]'hlt,by simp⟩
   rw[hq] at k0;have k0:wr.cell? ⟨b,off+i,none⟩=some (.int .i64 q):=k0;have htk:Gl.take (i+1)=Gl.take i++[q]:=List.take_succ_eq_append_of hq;have q1:decide ((i:Int)<(Gl.length:Int))=true:=decide_eq_true (by omega);have q2:decide (i<Gl.length)=true:=decide_eq_true hlt;have S:=rsee_any h1 (by simp;omega) q;have HO:=Hd ho;have HT:=Hd ht;have HTK:=Hd htk;clear h1 ho ht hc hq htk;go_wp2_with fail;refine S.mono ?_;rintro e w4 ⟨rfl,v4,h4,ho4,ht4⟩;have hE4:seeE seen (Gl.take (i+1))=if seeE seen (Gl.take i)=0∧q∈seen++Gl.take i then 11 else seeE seen (Gl.take i):=by rw[HTK.out];exact seeE_snoc _ _ _
   have hn:RLd w4 sb a len cap d r v4 (seen++Gl.take (i+1)) (if (0:Int)=0 then seeE seen (Gl.take (i+1)) else 0):=by
    rw[if_pos rfl,hE4,HTK.out,←List.append_assoc];exact h4
   have HN:=Hd hn;have HO5:=Hd (only_next HO.out HT.out ho4);have HT5:=Hd (HT.out.trans ht4 HO.out.size);clear hn h4 ho4 ht4 hE4;go_wp2_with fail;go_roundw
   case rel=>exact⟨i+1,v4,hlt,by go_num,by simpa using HN.out,HO5.out,HT5.out⟩
   case measure=>simp[intOf];omega
  ·have hin:i=Gl.length:=by omega
   subst hin;rw[List.take_length] at h1;have q1:decide ((Gl.length:Int)<(Gl.length:Int))=false:=decide_eq_false (by omega);have q2:decide (Gl.length<Gl.length)=false:=decide_eq_false hlt;have hbk:∀q∈[(w.heap.size+1,[Value.string ⟨#[]⟩,Value.slice none 0 0])],q.1∉RS sb v:=by
    intro q hq hm;have hq2:q.1=w.heap.size+1:=by simp at hq;rw[hq]
    exact q79e41f
   have hx4:Boxes wr [(w.heap.size+1,[.string ⟨#[]⟩,.slice none 0 0])]:=(HX3.out.sub (m:=[(w.heap.size+1,[.string ⟨#[]⟩,.slice none 0 0])]) (by intro q hq;simp at hq ⊢;subst hq;exact .inl rfl)).only ho hbk;have f0:=hx4.frozen 0 0 rfl;have f1:=hx4.frozen 0 1 rfl;have k0:=hx4.cell 0 0 rfl rfl;have k1:=hx4.cell 0 1 rfl rfl;have hx5:=(hx4.put 0 (.string (strOf Gs)) (by intro q hq;simp at hq)).put 1 (.slice av Gl.length cv) (by intro q hq;simp at hq);have z0:=hx5.cell 0 0 rfl rfl;have z1:=hx5.cell 0 1 rfl rfl;have HE:Hid (RLeafPost w sb a len cap d r v (valL d r seen ⟨vd,true,vs,vp⟩) (.returned (.agg #[.string (strOf Gs),.slice av Gl.length cv])) ((wr.setCell ⟨w.heap.size+1,0,none⟩ (.string (strOf Gs))).setCell ⟨w.heap.size+1,1,none⟩ (.slice av Gl.length cv))):=Hd (by
    obtain⟨we,hwe⟩:∃x,x=((wr.setCell ⟨w.heap.size+1,0,none⟩ (.string (strOf Gs))).setCell ⟨w.heap.size+1,1,none⟩ (.slice av Gl.length cv)):=⟨_,rfl⟩
    rw[←hwe];have ho5:Only [w.heap.size+1] wr we:=by rw[hwe];exact((Only.refl _ _).set _ _ (by simp)).set _ _ (by simp)
    have hs1:=HS1.out;have hs3:=HS3.out;have hvb:∀k,vi.ownBlock=some k→k<w.heap.size∨wx.heap.size≤k:=fun k hk=>by
     rcases ht with t|t
     ·exact .inl (HVB.out k (t ▸ hk))
     ·have:=t k hk;exact .inr (by omega)
    have hdE:=h1.only ho5 (fun k hk=>by
     have hk:k=w.heap.size+1:=by simpa using hk
     subst hk;exact⟨by omega,fun e=>by rcases hvb _ e with e|e<;>omega⟩)
    have hoA:Only (RS sb v) w wr:=((Only.of_below (HB1.out.trans (HBX.out.mono HB1.out.size))).trans HO3.out).trans ho;have hszr:=ho.size;refine⟨strOf Gs,av,Gl.length,cv,vi,_,_,rfl,hdE,hoA.then ho5 (fun k hk=>.inr (by simp at hk;omega)),ht.from (by have:=HBX.out.size;omega),?_⟩;rw[HVAL.out]
    by_cases hE0:Ge=0
    ·rw[if_neg (by simpa using hE0),if_pos hE0]
     cases hs:seeL seen Gl with
     | none=>exact⟨by unfold seeE;rw[hs];rfl,by omega⟩
     | some s=>
      refine⟨by unfold seeE;rw[hs];rfl,(seeL_app hs).symm,av,_,cv,rfl,?_,?_⟩
      ·refine row_at (HAT.out wr ho) ho5.size (fun x ex=>?_)
       have:=HGA.out x ex;rw[hwe];exact(Below.heap_setCell _ _ _ x.block (fun e=>by have:x.block=w.heap.size+1:=e;omega)).trans (Below.heap_setCell _ _ _ x.block (fun e=>by have:x.block=w.heap.size+1:=e;omega))
      ·rcases Nat.eq_zero_or_pos Gl.length with h0|h0
       ·exact .inl h0
       ·refine .inr fun b off e=>?_
        have g1:w1.heap.size≤b:=HGA.out _ e;have g2:b<wx.heap.size:=HGL.out _ e h0;exact⟨by omega,fun e=>by rcases hvb _ e with e|e<;>omega⟩
    ·rw[if_pos (by simpa using hE0),if_neg hE0]
     exact⟨rfl,hE0⟩)
   clear hx4 hx5 h1 ho ht;go_wp2_with fail;refine bodyPost_ret (v:=.agg #[.string (strOf Gs),.slice av Gl.length cv]) (by simp[results,Tryz.results102,go_sem,z0,z1]) rfl ?_;exact HE.out):p:=h
theorem qe36c20 (h:p:=by
 have cC:∀W,Below w1.heap.size w1 W→W.cell? ⟨w.heap.size,2,none⟩=some (.int .i64 vs):=fun W hW=>(hW.cell (p:=⟨w.heap.size,2,none⟩) hx0).trans o2
 have cD:∀W,Below w1.heap.size w1 W→W.cell? ⟨w.heap.size,3,none⟩=some (.int .i64 vp):=fun W hW=>(hW.cell (p:=⟨w.heap.size,3,none⟩) hx0).trans o3
 have hb0:Below w1.heap.size w1 w1.drew:=below_drewN (Below.refl _ _) 1
 first|exact Mk.go 460811 zm q258c8b|exact Mk.go 177910 zm qe798b6):p:=h
theorem qceefca (h:p:=by
 go_wp2_with fail
 try rw[hwA]
 refine CF.mono ?_;rintro e w2 ⟨rfl,hb2⟩;have HB2:=Hd (HB.out.trans (hb2.mono HB.out.size));clear CF hb2;go_wp2_with fail;go_ret;exact⟨by rw[HCK.out];rfl,HB2.out⟩):p:=h
theorem q2b53f5 (h:p:=by
 cases hvl:(Value.slice aC LL.length cC).ownBlock with
 | none=>rw[hvl] at hm;simp at hm;exact .inl hm
 | some g=>rw[hvl] at hm;simp at hm;rcases hm with rfl|rfl;exact .inl rfl;exact .inr rfl):p:=h
theorem q9332b0 (h:p:=by
 have hw:Region.wanted o (yielded ops a.tmps)=true:=by simp[Region.wanted,hgd]
 rw[if_pos hw];unfold Oper.wp execOp;simp only[ho,Sem.run_bind,Sem.run_pure,Result.andThen_ok,hx,hy,hr];exact h):p:=h
theorem qad665f (h:p:=by
 have:kind.toNat≠0:=fun e=>hk (UInt8.toNat_inj.1 e)
 simpa using this):p:=h
theorem qfa7848 (h:p:=by
 clear zm;have zm:=Mk.i 103522;exact q560125):p:=h
theorem qe940d2 (h:p:=by
 clear zm;rw[hstep.1] at C;have zm:=Mk.i 170428;exact q560125):p:=h
theorem q2a6c41 (h:p:=by
 obtain⟨py,by9⟩:=y;dsimp only at *;obtain⟨c11,w11,hcv,hbs,hb11⟩:=str_bytes (P:=Tryz.prog) wr.drew Tryz.underlying9 Tryz.underlying42 Tryz.underlying5 by9 (by omega);rw[hy128] at hcv hbs;have hbd:Below wr.heap.size wr w11:=below_via (Below.dr (Below.refl _ _)) hb11;have hop:=hd.opens_at hbd;have C:=write_o hop hbs (fun g off e=>.inr (by cases e;exact Nat.le_refl _)) (by omega) 0 py
 first|exact Mk.go 414792 zm qfa7848|exact Mk.go 286482 zm qe940d2):p:=h
theorem qc9233d (h:p:=by
 simp only[Nat.zero_mul,Nat.zero_add]
 rcases m with _|_|_|m
 ·cases hu;exact hxk6.cell 0 0 rfl rfl
 ·cases hu;exact hxk6.cell 0 1 rfl rfl
 ·cases hu;exact hxk6.cell 0 2 rfl rfl
 ·simp at hu):p:=h
theorem q7ce93d (h:p:=by
 have HH2:=Hd hh2;clear hh2;have HE:Hid (FT=false):=Hd (by rw[HFIT.out,fitTo_bad (i:=(i+1)) (by omega) (by unfold fitAt;rw[HKK.out,HKP.out];simp[HH.out,HH2.out])];rfl);exact q993faf):p:=h
theorem q0da5fb (h:p:=by
 have hw:Region.wanted o (yielded ops a.tmps)=true:=by simp[Region.wanted,hgd]
 rw[if_pos hw];unfold Oper.wp execOp;simp only[ho,Sem.run_bind,Sem.run_pure,Result.andThen_ok,hx,hr];exact h):p:=h
theorem q7dd336 (h:p:=by
 intro q hq hm9
 rcases RS.mem.1 hm9 with e|e
 ·simp at hq;rcases hq with rfl|rfl|rfl<;>simp at e<;>omega
 ·have:=hviN _ e;simp at hq;rcases hq with rfl|rfl|rfl<;>simp at this):p:=h
theorem q5a1c13 (h:p:=by
 clear zm
 by_cases hlt:i<kn
 ·obtain⟨bk,ok,rfl,hbk9,hck⟩:=HH1.out.at hlt
  have k0:=(hb.cell (p:=⟨bk,ok+i,none⟩) hbk9).trans hck;obtain⟨k,hk⟩:∃k,(keysOf l)[i]?.getD []=k:=⟨_,rfl⟩
  rw[hk] at k0;have HK:=Hd hk;have HX:=Hd hx;have HC:=Hd hc;have HB:=Hd hb;have hbk8:=Nat.lt_of_lt_of_le hbk9 hb.size;have hsl:=hc.sl;rw[show((cellsR (.leaf p l)).take i).length=i by rw[List.length_take,HCL.out];omega] at hsl;obtain⟨va0,vc0,rfl,hvc0,hvm0,_,_⟩:=hsl;clear hk hck hx hc;obtain⟨bv,ov,tv,tcs,rfl,hbv,hyv,_,⟨pa,pn,pc,rfl,hrow,hfa⟩,hcv⟩:=TabR.at HV.out hlt;have v0:=(hb.cell (p:=⟨bv,ov+i*2,none⟩) hbv).trans (hcv 0 _ rfl);have v1:=(hb.cell (p:=⟨bv,ov+i*2+1,none⟩) hbv).trans (hcv 1 _ rfl);have hbv8:=Nat.lt_of_lt_of_le hbv hb.size;have HYV:=Hd hyv;have HROW:=Hd hrow;have HFA:=Hd hfa;clear hyv hrow hfa hcv;obtain⟨wx,hwx⟩:∃wx,(wr.alloc (.cells #[.string (strOf k),.string (strOf tv.data),.slice pa pn pc,.slice none 0 0] 145)).drew=wx:=⟨_,rfl⟩
  have hwb:Below wr.heap.size wr wx:=by rw[←hwx];exact Below.dr (Below.al (Below.refl _ _))
  have hxq:Boxes wx [(wr.heap.size,[.string (strOf k),.string (strOf tv.data),.slice pa pn pc,.slice none 0 0])]:=by rw[←hwx];exact((Boxes.nil wr).alloc #[.string (strOf k),.string (strOf tv.data),.slice pa pn pc,.slice none 0 0] 145 rfl).drew
  have hy:RcOn (Gp F (w.heap.size+3) (.slice va0 i vc0)) n wx [.string (strOf k),.string (strOf tv.data),.slice pa pn pc,.slice none 0 0] ⟨k,tv,none⟩:=⟨pa,pn,pc,none,0,0,rfl,(HROW.out.below (Nat.le_refl _) hb).below (Nat.le_refl _) hwb,HFA.out.mono (fun b hf=>⟨.inl hf,fun e=>by have:=HC.out.block e;have:=hF b hf;omega⟩),TabR.nil _,Fa.zero _ _⟩
  have hyi:(cellsR (.leaf p l))[i]? = some ⟨k,tv,none⟩:=by
   rw[cellsR_leaf];have:=HYV.out;rw[List.getElem?_map] at this;obtain⟨c,hc1,hc2⟩:=Option.map_eq_some_iff.1 this;have hk:=HK.out;rw[hc1,←hk,←hc2];simp[keysOf,hc1]
  obtain⟨v',w8,hr8,hc8,hg8⟩:=CellsOwn.append (P:=Tryz.prog) (t:=25) Tryz.underlying25 info_Cc (HC.out.below hwb) (by have:=hwb.size;omega) (fun b hf=>by have:=hF b hf;omega) (by rw[List.length_take];omega) hy;rw[←List.take_succ_eq_append_of hyi] at hc8;have hlen:((cellsR (.leaf p l)).take (i+1)).length=i+1:=by rw[List.length_take,HCL.out];omega
  have zm:=Mk.i 130448;exact qfbe583
 ·obtain rfl:i=kn:=by omega
  have hc9:CellsOwn 145 F n (w.heap.size+3) wr v (cellsR (.leaf p l)):=by
   have:=hc
   rwa [List.take_of_length_le (by rw[HCL.out];exact Nat.le_refl _)] at this
  have hsl:=hc9.sl;rw[HCL.out] at hsl;obtain⟨va0,vc0,rfl,hvc0,hvm0,_,_⟩:=hsl;have HC:=Hd hc9;have HB:=Hd hb;have z0:=hx.cell 1 0 rfl rfl;have z1:=hx.cell 1 1 rfl rfl;have z2:=hx.cell 1 2 rfl rfl;have y0:=hx.frozen 1 0 rfl;have y1:=hx.frozen 1 1 rfl;have y2:=hx.frozen 1 2 rfl;have HXE:=Hd hx;clear hc hc9 hx hb;have hend:RNodeTo F (n+1) w (.leaf p l) (.returned (.agg #[.int .i64 p,.bool true,.slice va0 i vc0])) (((wr.setCell ⟨w.heap.size+1,0,none⟩ (.int .i64 p)).setCell ⟨w.heap.size+1,1,none⟩ (.bool true)).setCell ⟨w.heap.size+1,2,none⟩ (.slice va0 i vc0)):=by
   have h9:∀j,¬F (⟨w.heap.size+1,j,none⟩:Addr).block:=fun j hf=>by have:=hF _ hf;simp at this;omega
   have h8:∀j,(⟨w.heap.size+1,j,none⟩:Addr).block<w.heap.size+3:=fun j=>by show w.heap.size+1<_;omega
   have h7:∀j,w.heap.size≤(⟨w.heap.size+1,j,none⟩:Addr).block:=fun j=>by show _≤w.heap.size+1;omega
   exact⟨[.int .i64 p,.bool true,.slice va0 i vc0],rfl,(((HC.out.set _ (h8 0) (h9 0)).set _ (h8 1) (h9 1)).set _ (h8 2) (h9 2)).node (by omega),((HB.out.setCell (h7 0) _).setCell (h7 1) _).setCell (h7 2) _⟩
  have hxw:=(((HXE.out.sub (m:=[(w.heap.size+1,[.int .i64 0,.bool false,.slice none 0 0])]) (by simp)).put 0 (.int .i64 p) (by simp)).put 1 (.bool true) (by simp)).put 2 (.slice va0 i vc0) (by simp);have g0:=hxw.cell 0 0 rfl rfl;have g1:=hxw.cell 0 1 rfl rfl;have g2:=hxw.cell 0 2 rfl rfl;have HG:=Hd (And.intro g0 (And.intro g1 g2));clear g0 g1 g2 hxw;have HE:=Hd hend;clear hend;go_wp2_with fail;refine bodyPost_ret (v:=.agg #[.int .i64 p,.bool true,.slice va0 i vc0]) (by obtain⟨g0,g1,g2⟩:=HG.out;simp only[results,Tryz.results18];simp[go_sem,g0,g1,g2]) rfl ?_;exact HE.out):p:=h
theorem q99592f (h:p:=by
 clear zm
 by_cases hlt:i<kn
 ·obtain⟨bk,ok,rfl,hbk9,hck⟩:=HH1.out.at hlt
  have k0:=(hb.cell (p:=⟨bk,ok+i,none⟩) hbk9).trans hck;obtain⟨k,hk⟩:∃k,(keysOf l)[i]?.getD []=k:=⟨_,rfl⟩
  rw[hk] at k0;have HK:=Hd hk;have HX:=Hd hx;have HC:=Hd hc;have HB:=Hd hb;have hbk8:=Nat.lt_of_lt_of_le hbk9 hb.size;have hsl:=hc.sl;rw[show((cellsR (.node p l)).take i).length=i by rw[List.length_take,HCL.out];omega] at hsl;obtain⟨va0,vc0,rfl,hvc0,hvm0,_,_⟩:=hsl;clear hk hck hx hc;obtain⟨bv,ov,kid,kcs,rfl,hbv,hyv,_,hkid,hcv⟩:=TabR.at HV.out hlt;have hkid9:=hkid;cases n with
  | zero=>exact hkid.elim
  | succ n=>
  obtain⟨y1,y2,y3,y4,y5,y6,y7,y8,_,_,ey,_⟩:=hkid.open;subst ey;have v0:=(hb.cell (p:=⟨bv,ov+i*5,none⟩) hbv).trans (hcv 0 _ rfl);have v1:=(hb.cell (p:=⟨bv,ov+i*5+1,none⟩) hbv).trans (hcv 1 _ rfl);have v2:=(hb.cell (p:=⟨bv,ov+i*5+2,none⟩) hbv).trans (hcv 2 _ rfl);have v3:=(hb.cell (p:=⟨bv,ov+i*5+3,none⟩) hbv).trans (hcv 3 _ rfl);have v4:=(hb.cell (p:=⟨bv,ov+i*5+4,none⟩) hbv).trans (hcv 4 _ rfl);have hbv8:=Nat.lt_of_lt_of_le hbv hb.size;obtain⟨c,hc1,hc2⟩:∃c,l[i]? = some c∧c.2=kid:=by
   rw[List.getElem?_map] at hyv;exact Option.map_eq_some_iff.1 hyv
  have hyi:(cellsR (.node p l))[i]? = some ⟨k,⟨[],[]⟩,some kid⟩:=by
   rw[cellsR_node,hc1,←hc2,←HK.out];simp[keysOf,hc1]
  have hal:Below wr.heap.size wr (wr.alloc (.cells #[.string (strOf k),.string ⟨#[]⟩,.slice none 0 0,.slice none 0 0] 145)):=Below.al (Below.refl _ _);have CK:=IH (F:=F) (w:=wr.alloc (.cells #[.string (strOf k),.string ⟨#[]⟩,.slice none 0 0,.slice none 0 0] 145)) (fun b hf=>by have:=hF b hf;simp;omega) ((hkid.below hb).below hal) (by rw[←hc2];exact hbk c (List.mem_of_getElem? hc1));have HYI:=Hd hyi;clear hyv hcv hkid hkid9 hc1 hc2 hyi;go_wp2_with fail;refine CK.mono ?_;rintro e w2 ⟨cs2,rfl,hkn,hb2⟩;obtain⟨a3,c3,ecs,_,_⟩:=hkn.at;subst ecs;have hxq0:=((Boxes.nil wr).alloc #[.string (strOf k),.string ⟨#[]⟩,.slice none 0 0,.slice none 0 0] 145 rfl).step hb2;have hxq1:Boxes (w2.alloc (.cells #[.int .i64 kid.page,.bool kid.isLeaf,.slice a3 (cntT kid) c3] 27)) _:=Boxes.al hxq0;have q3:=hxq1.cell 0 3 rfl rfl;have q3':=hxq1.frozen 0 3 rfl;clear hxq1;obtain⟨wx,hwx⟩:∃wx,(w2.alloc (.cells #[.int .i64 kid.page,.bool kid.isLeaf,.slice a3 (cntT kid) c3] 27)).setCell ⟨wr.heap.size,3,none⟩ (.slice (some ⟨w2.heap.size,0,none⟩) 1 1)=wx:=⟨_,rfl⟩
  have hz2:wr.heap.size+1≤w2.heap.size:=by have:=hb2.size;simpa using this
  have hwb2:Below wr.heap.size wr w2:=hal.trans (hb2.mono hal.size);have hwb:Below wr.heap.size wr wx:=by rw[←hwx];exact Below.st (Below.al hwb2) (Nat.le_refl _)
  have hxq:Boxes wx [(wr.heap.size,[.string (strOf k),.string ⟨#[]⟩,.slice none 0 0,.slice (some ⟨w2.heap.size,0,none⟩) 1 1])]:=by rw[←hwx];exact(Boxes.al hxq0).put 3 _ (by simp)
  have hxk:Boxes wx [(w2.heap.size,[.int .i64 kid.page,.bool kid.isLeaf,.slice a3 (cntT kid) c3])]:=by rw[←hwx];exact Boxes.st ((Boxes.nil w2).alloc #[.int .i64 kid.page,.bool kid.isLeaf,.slice a3 (cntT kid) c3] 27 rfl) (by intro p hp;simp at hp;subst hp;simp;omega)
  have hagr:AgreeF (Fr F (wr.alloc (.cells #[.string (strOf k),.string ⟨#[]⟩,.slice none 0 0,.slice none 0 0] 145))) w2 wx:=by
   rw[←hwx];refine AgreeF.set (AgreeF.of_below (Below.al (Below.refl _ _))) (.inl fun hf=>?_)
   rcases hf with hf|hf
   ·have:=hF _ hf;simp at this;have:=hb.size;omega
   ·simp at hf;omega
  have hge0:∀b,(Value.slice va0 i vc0).ownBlock=some b→w.heap.size+3≤b∧b<wr.heap.size:=fun b hb=>HC.out.block hb
  have hkx:RNodeOn (Gp F (w.heap.size+3) (.slice va0 i vc0)) (n+1) wx [.int .i64 kid.page,.bool kid.isLeaf,.slice a3 (cntT kid) c3] kid:=(hkn.agree hagr).mono (fun b hf=>by
   rcases hf with hf|hf
   ·exact⟨.inl hf,fun e=>by have:=(hge0 b e).1;have:=hF b hf;omega⟩
   ·simp at hf
    exact⟨.inr (by omega),fun e=>by have:=(hge0 b e).2;omega⟩)
  have hy:RcOn (Gp F (w.heap.size+3) (.slice va0 i vc0)) (n+1) wx [.string (strOf k),.string ⟨#[]⟩,.slice none 0 0,.slice (some ⟨w2.heap.size,0,none⟩) 1 1] ⟨k,⟨[],[]⟩,some kid⟩:=by
   refine⟨none,0,0,some ⟨w2.heap.size,0,none⟩,1,1,rfl,⟨rfl,Nat.le_refl _,by unfold maxLen;omega,fun _=>rfl,.inl rfl⟩,Fa.zero _ _,⟨rfl,Nat.le_refl _,by unfold maxLen;omega,fun h=>(by cases h),.inr ⟨w2.heap.size,0,rfl,hxk.lt 0 rfl,fun j y hj=>?_⟩⟩,.inr fun b off e=>?_⟩
   ·cases j with
    | succ j=>cases hj
    | zero=>
     cases hj;exact⟨_,rfl,hkx,fun j v hv=>by have:=hxk.cell 0 j rfl hv;simpa using this⟩
   ·cases e
    exact⟨.inr (by omega),fun e=>by have:=(hge0 _ e).2;omega⟩
  have hyi:=HYI.out;clear hkn hagr hkx hge0 hxk hxq0 hwb2 CK hb2;obtain⟨v',w8,hr8,hc8,hg8⟩:=CellsOwn.append (P:=Tryz.prog) (t:=25) Tryz.underlying25 info_Cc (HC.out.below hwb) (by have:=hwb.size;omega) (fun b hf=>by have:=hF b hf;omega) (by rw[List.length_take];omega) hy;rw[←List.take_succ_eq_append_of hyi] at hc8;have hlen:((cellsR (.node p l)).take (i+1)).length=i+1:=by rw[List.length_take,HCL.out];omega
  have zm:=Mk.i 582011;exact qfbe583
 ·obtain rfl:i=kn:=by omega
  have hc9:CellsOwn 145 F n (w.heap.size+3) wr v (cellsR (.node p l)):=by
   have:=hc
   rwa [List.take_of_length_le (by rw[HCL.out];exact Nat.le_refl _)] at this
  have hsl:=hc9.sl;rw[HCL.out] at hsl;obtain⟨va0,vc0,rfl,hvc0,hvm0,_,_⟩:=hsl;have HC:=Hd hc9;have HB:=Hd hb;have z0:=hx.cell 1 0 rfl rfl;have z1:=hx.cell 1 1 rfl rfl;have z2:=hx.cell 1 2 rfl rfl;have y0:=hx.frozen 1 0 rfl;have y1:=hx.frozen 1 1 rfl;have y2:=hx.frozen 1 2 rfl;have HXE:=Hd hx;clear hc hc9 hx hb;have hend:RNodeTo F (n+1) w (.node p l) (.returned (.agg #[.int .i64 p,.bool false,.slice va0 i vc0])) (((wr.setCell ⟨w.heap.size+1,0,none⟩ (.int .i64 p)).setCell ⟨w.heap.size+1,1,none⟩ (.bool false)).setCell ⟨w.heap.size+1,2,none⟩ (.slice va0 i vc0)):=by
   have h9:∀j,¬F (⟨w.heap.size+1,j,none⟩:Addr).block:=fun j hf=>by have:=hF _ hf;simp at this;omega
   have h8:∀j,(⟨w.heap.size+1,j,none⟩:Addr).block<w.heap.size+3:=fun j=>by show w.heap.size+1<_;omega
   have h7:∀j,w.heap.size≤(⟨w.heap.size+1,j,none⟩:Addr).block:=fun j=>by show _≤w.heap.size+1;omega
   exact⟨[.int .i64 p,.bool false,.slice va0 i vc0],rfl,(((HC.out.set _ (h8 0) (h9 0)).set _ (h8 1) (h9 1)).set _ (h8 2) (h9 2)).node (by omega),((HB.out.setCell (h7 0) _).setCell (h7 1) _).setCell (h7 2) _⟩
  have hxw:=(((HXE.out.sub (m:=[(w.heap.size+1,[.int .i64 0,.bool false,.slice none 0 0])]) (by simp)).put 0 (.int .i64 p) (by simp)).put 1 (.bool false) (by simp)).put 2 (.slice va0 i vc0) (by simp);have g0:=hxw.cell 0 0 rfl rfl;have g1:=hxw.cell 0 1 rfl rfl;have g2:=hxw.cell 0 2 rfl rfl;have HG:=Hd (And.intro g0 (And.intro g1 g2));clear g0 g1 g2 hxw;have HE:=Hd hend;clear hend;go_wp2_with fail;refine bodyPost_ret (v:=.agg #[.int .i64 p,.bool false,.slice va0 i vc0]) (by obtain⟨g0,g1,g2⟩:=HG.out;simp only[results,Tryz.results18];simp[go_sem,g0,g1,g2]) rfl ?_;exact HE.out):p:=h
theorem q3e75f7 (h:p:=by
 obtain⟨i,v,hi,rfl,hx,hc,hb⟩:=hrel;clear HX0 HB0;have hx0:=hx.lt 2 rfl;have hx1:=hx.lt 1 rfl;have hx2:=hx.lt 0 rfl;have n0:=hx.cell 2 0 rfl rfl;have n1:=hx.cell 2 1 rfl rfl;have n2:=hx.cell 2 2 rfl rfl;have n3:=hx.cell 2 3 rfl rfl;have n4:=hx.cell 2 4 rfl rfl;have o0:=hx.cell 0 0 rfl rfl;have o1:=hx.cell 0 1 rfl rfl;have o2:=hx.cell 0 2 rfl rfl;have u2:=hx.frozen 0 2 rfl
 first|exact Mk.go 905427 zm q5a1c13|exact Mk.go 49839 zm q99592f):p:=h
theorem q5c06a7 (h:p:=by
 clear zm;have HE:Hid (RLeafPost w sb a len cap d r v (valL d r seen ⟨vd,false,vs,vp⟩) (.returned (.agg #[.string (strOf vd),.slice none 0 0])) ((w1.setCell ⟨w.heap.size+1,0,none⟩ (.string (strOf vd))).setCell ⟨w.heap.size+1,1,none⟩ (.slice none 0 0))):=Hd (by
  have hb2:Below w.heap.size w ((w1.setCell ⟨w.heap.size+1,0,none⟩ (.string (strOf vd))).setCell ⟨w.heap.size+1,1,none⟩ (.slice none 0 0)):=(hb1.setCell (by show w.heap.size≤w.heap.size+1;omega) _).setCell (by show w.heap.size≤w.heap.size+1;omega) _;refine⟨_,none,0,0,v,seen,0,rfl,h.below hb2,Only.of_below hb2,Turn.refl _ _,?_⟩;unfold valL;rw[if_pos rfl];exact⟨rfl,rfl,none,0,0,rfl,⟨rfl,by simp,by unfold maxLen;omega,fun _=>rfl,.inl rfl⟩,.inl rfl⟩)
 clear hd1 hx1 hx2 h hb1;go_enter Tryz.func102,Tryz.ntmps102;go_wp2_with fail;refine bodyPost_ret (v:=.agg #[.string (strOf vd),.slice none 0 0]) (by simp[results,Tryz.results102,go_sem,z0,z1]) rfl ?_;exact HE.out):p:=h
theorem q78d0a4 (h:p:=by
 clear zm;have HE:Hid (ValPost T w lb mb da M d r (valL d r seen ⟨vd,false,vs,vp⟩) (.returned (.agg #[.string (strOf vd),.slice none 0 0])) ((w1.setCell ⟨w.heap.size+1,0,none⟩ (.string (strOf vd))).setCell ⟨w.heap.size+1,1,none⟩ (.slice none 0 0))):=Hd (by
  have hb2:Below w.heap.size w ((w1.setCell ⟨w.heap.size+1,0,none⟩ (.string (strOf vd))).setCell ⟨w.heap.size+1,1,none⟩ (.slice none 0 0)):=(hb1.setCell (by show w.heap.size≤w.heap.size+1;omega) _).setCell (by show w.heap.size≤w.heap.size+1;omega) _;refine⟨Only.of_below hb2,?_⟩;unfold valL;rw[if_pos rfl];exact⟨_,rfl,⟨none,0,0,rfl,⟨rfl,by simp,by unfold maxLen;omega,fun _=>rfl,.inl rfl⟩,.inl rfl⟩,h.below hT hb2⟩)
 clear hd1 hx1 hx2 h hb1;go_enter Tryz.func97,Tryz.ntmps97;go_wp2_with fail;refine bodyPost_ret (v:=.agg #[.string (strOf vd),.slice none 0 0]) (by simp[results,Tryz.results97,go_sem,z0,z1]) rfl ?_;exact HE.out):p:=h
theorem q720e2e (h:p:=by
 have v0:=hx1.cell 1 0 rfl rfl;have v1:=hx1.cell 1 1 rfl rfl;have hx2:=(hx1.put 0 (.string (strOf vd)) (by intro q hq;simp at hq;subst hq;simp)).put 1 (.slice none 0 0) (by intro q hq;simp at hq;subst hq;simp);have z0:=hx2.cell 0 0 rfl rfl;have z1:=hx2.cell 0 1 rfl rfl;have k0:=hx1.cell 0 0 rfl rfl;have k1:=hx1.cell 0 1 rfl rfl;have f0:=hx1.frozen 0 0 rfl;have f1:=hx1.frozen 0 1 rfl
 first|exact Mk.go 31015 zm q5c06a7|exact Mk.go 917732 zm q78d0a4):p:=h
theorem q2848ab (h:p:=by
 go_wp2
 go_ret;exact⟨ret_int (by unfold neighF;split<;>omega),rfl⟩):p:=h
theorem qf09442 (h:p:=by
 have HB:=Hd hb;have f2:=hx.cell 0 2 rfl rfl;have d0:decide ((i:Int)<(i:Int))=false:=by simp
 clear hfit hrest hb hx;go_wp2_with fail;go_ret;exact⟨by rw[HR.out];rfl,HB.out⟩):p:=h
theorem qe40f05 (h:p:=by
 rw[hw1];exact((Boxes.nil w).alloc #[.int .i64 0,.bool false,.slice none 0 0] 27 (b:=w.heap.size) rfl).alloc #[.int .i64 p,.bool false,.slice none 0 0] 27 (b:=w.heap.size+1) (by simp)):p:=h
theorem qbdac8e (h:p:=by
 clear c0 c1 c2 c3 c4 d1 p0 hC hC7 hb7 B6 hr6 hp6 hbl6 hlq hsub;go_wp2_with fail;go_roundw
 case rel=>exact⟨k+1,by omega,by go_num,HU.out,B8,hb8⟩
 case measure=>simp[intOf];omega):p:=h
theorem q03511a (h:p:=by
 go_wp2_with fail;refine bodyPost_ret (v:=.agg #[.int .i64 p1,.bool l1,.slice a1 m1 d1]) (by simp only[results,Tryz.results87];simp[go_sem,t0,t1,t2]) rfl ?_;rw[HTE.out];exact HE.out):p:=h
theorem qbb2c82 (h:p:=by
 obtain⟨L,h1,_⟩:=h;refine⟨own_ge h1 b hb,?_⟩
 rcases h1.2 with⟨rfl,_⟩|⟨g,cap,cur,rfl,_,hg,_⟩
 ·cases hb
 ·cases hb;exact(Array.getElem?_eq_some_iff.1 hg).1):p:=h
theorem q6622f6 (h:p:=by
 clear zm;go_enter Tryz.func105,Tryz.ntmps105;exact q72c811):p:=h
theorem q687f8d (h:p:=by
 clear zm;go_enter Tryz.func107,Tryz.ntmps107;exact q72c811):p:=h
theorem q01f38c (h:p:=by
 clear zm;go_enter Tryz.func208,Tryz.ntmps208;exact q72c811):p:=h
theorem q7f39ad (h:p:=by
 obtain⟨a,cap,hblk,hbs⟩:=h;have hc1:w.cell? ⟨t,1,none⟩=some (.int .i64 s.e):=by simp[World.cell?,hblk]
 have hne:(s.e == 0)=false:=by simpa using he
 have hne':(s.e != 0)=true:=by simpa using he
 clear he;generalize s.e=er at *
 first|exact Mk.go 693622 zm q6622f6|exact Mk.go 848397 zm q687f8d|exact Mk.go 127884 zm q01f38c):p:=h
theorem q639ae9 (h:p:=by
 induction l with
 | nil=>simp[sumI_nil]
 | cons x l ih=>
  have h1:=h x (by simp);have h2:=ih (fun y hy=>h y (by simp[hy]));rw[sumI_cons];simp only[List.length_cons];omega):p:=h
theorem q6568ee (h:p:=by
 rw[←hX4,strOf_toList,strOf_toList,bytes_lessT]
 by_cases h:k<lo
 ·exact .inl ⟨decide_eq_true h,decide_eq_true h⟩
 ·exact .inr ⟨decide_eq_false h,decide_eq_false h⟩):p:=h
theorem qf7016b (h:p:=by
 clear HD hfit hpos;go_enter Tryz.func168,Tryz.ntmps168;go_wp2_with fail;refine C.mono ?_;rintro e w' ⟨rfl,rfl⟩;go_wp2_with fail
 go_ret2
 exact rputPostC_bad HB.out (Below.refl _ _)):p:=h
theorem qbe4cde (h:p:=by
 clear zm;refine tkn [12,14] ?_;refine tkn [13,15] ?_;refine tks [16,17,18] ?_;refine wpAnyH_done (by kernel_rfl) ?_ _;refine NoPanic.normal ?_;have HB13:=Hd (below_then HB12.out (show Below w12.heap.size w12 w12.drew from(Below.refl _ _).drew));go_wp2_with fail;go_ret;exact⟨rfl,HB13.out⟩):p:=h
theorem q002532 (h:p:=by
 clear zm;refine tks [12,14] ?_;refine rdy 13 (fun K hK=>?_);rw[if_pos (by rfl)]
 go_wp2_with ((go_at_call 18;(with_reducible refine(CP _ ?_).mono ?_);(focus (repeat (with_reducible first|assumption|exact Below.refl _ _|apply Below.al|apply Below.dr)));rintro e wP ⟨cs9,rfl,hrP,hbP⟩;have hBP:Below w12.heap.size w12 wP:=below_via (by(repeat (with_reducible first|assumption|exact Below.refl _ _|apply Below.al|apply Below.dr))) hbP;(obtain⟨g1,g2,g3,rfl⟩:=RNodeOn.open_pos hrP)))
 refine bkw hK (by(repeat (with_reducible first|assumption|exact Below.refl _ _|apply Below.al|apply Below.dr))) (fun hHeld=>?_);clear hK K;refine rdy 15 (fun K hK=>?_);rw[if_pos (by rfl)]
 go_wp2_with ((go_at_call 17;(with_reducible refine(same_any hrP (RNodeOn.below hn12 hBP)).mono ?_);rintro e wS ⟨rfl,hbS⟩;have hBS:Below w12.heap.size w12 wS:=below_via hBP hbS))
 refine bkw hK (by(repeat (with_reducible first|assumption|exact Below.refl _ _|apply Below.al|apply Below.dr))) (fun hHeld=>?_);clear hK K;refine tks [16,17,18] ?_;refine wpAnyH_done (by kernel_rfl) ?_ _;refine NoPanic.normal ?_;have HB13:=Hd (below_then HB12.out hBS);go_wp2_with fail;go_ret;exact⟨rfl,HB13.out⟩):p:=h
theorem qbecf1c (h:p:=by
 go_upto_region 25 with(fail)
 refine wp_region_noPanic ?_;refine wp_region_held_drew (S:=(fun W=>Below w12.heap.size w12 W)) (by kernel_rfl) (by(repeat (with_reducible first|assumption|exact Below.refl _ _|apply Below.al|apply Below.dr))) (fun hHeld=>?_);refine tks [0,1] ?_;refine tks [2,3] ?_;refine tks [4,5] ?_;refine tks [6,7] ?_;refine tks [8,9] ?_;refine tks [10,11] ?_
 first|exact Mk.go 471518 zm qbe4cde|exact Mk.go 9522 zm q002532):p:=h
theorem qca3992 (h:p:=by
 have HE:Hid (aptCAt at_ i=false):=Hd (by rw[HAE.out];simp[pgC];omega);go_wp2_with fail
 go_quiet (fail)
 go_wp2_with fail
 go_ret2
 exact HBAD.out _ (below_drewN HB.out nq) HE.out):p:=h
theorem q6e5b4c (h:p:=by
 go_enter Tryz.func68,Tryz.ntmps68;go_wp2_with fail;refine(refNum_any _ _ _ (by omega)).mono ?_;rintro e w1 ⟨rfl,hb⟩;rw[hN.out]
 go_wp2
 go_ret;exact⟨by rw[HT.out];rfl,hb⟩):p:=h
theorem qcffa51 (h:p:=by
 go_wp2_with fail;refine U.mono ?_;rintro e w0 ⟨rfl,rfl⟩;go_wp2_with fail
 go_ret2
 exact END.out):p:=h
theorem q3c7e12 (h:p:=by
 go_enter Tryz.func125,Tryz.ntmps125
 go_wp2_with (go_at_call 150;refine(refSum_any _ _ _ _ _ hr hs).mono ?_;rintro e w' ⟨rfl,rfl⟩)
 go_ret;exact⟨ret_int hat.out.symm,rfl⟩):p:=h
theorem q857c04 (h:p:=by
 rcases e1 with e1|⟨e1,rfl⟩
 ·rw[e1];exact⟨0,m,rfl,e2,e3,by omega,by simp at e5 ⊢;omega⟩
 ·rw[e1];exact⟨0,_,rfl,e2,e3,by omega,by simp<;>omega⟩):p:=h
theorem qbf2ac7 (h:p:=by
 unfold newOk;rw[show l.all (fun n=>decide (1≤n) && decide (n≤1000))=false from by
  rw[List.all_eq_false];exact⟨n,List.mem_of_getElem? hn,by simp;omega⟩]
 simp):p:=h
theorem q74289f (h:p:=by
 have HK0:=Hd hk0;clear hk0;have HE:Hid (FT=false):=Hd (by rw[HFIT.out,fitTo_bad (i:=0) (by omega) (by unfold fitAt;rw[HKK.out];simp[HK0.out])];rfl);exact q993faf):p:=h
theorem q320f95 (h:p:=by
 clear zm;rw[cellsR_node] at hy;obtain⟨x,hx1,hx2⟩:=Option.map_eq_some_iff.1 hy;subst hx2;obtain⟨q1,q2⟩:=HS.out i x hx1;obtain⟨k,kid⟩:=x;have v0:=(hb.cell (p:=⟨b,off+i*4,none⟩) hbb).trans c0;have hsz:=strOf_size k;obtain⟨m,hm⟩:∃m,k.length=m:=⟨_,rfl⟩
 dsimp only at *;rw[hm] at q1 q2 hsz;clear hm hx1 hy c0 c1;obtain⟨v8,w8,hr8,ho8,hg8,hv8⟩:=run_append_new (P:=Tryz.prog) (w:=wr) w.heap.size 35 3 i0 _ 1 8 Tryz.underlying35 hi0 hz0 hz1 hz2 rfl (by decide) hown #[.int .i64 (4+(m:Int))] rfl (by intro u hu;simp at hu;subst hu;rfl) (by unfold maxLen;omega) (by omega) hb.size;have zm:=Mk.i 92962;exact q37f2f9):p:=h
theorem q74aea3 (h:p:=by
 clear zm;rw[cellsR_leaf] at hy;obtain⟨x,hx1,hx2⟩:=Option.map_eq_some_iff.1 hy;subst hx2;obtain⟨q1,q2,q3⟩:=HS.out i x hx1;obtain⟨k,tv⟩:=x;dsimp only at *;have v0:=(hb.cell (p:=⟨b,off+i*4,none⟩) hbb).trans c0;have v1:=(hb.cell (p:=⟨b,off+i*4+1,none⟩) hbb).trans c1;have hsz:=strOf_size k;have hsz2:=strOf_size tv.data;obtain⟨m,hm⟩:∃m,k.length=m:=⟨_,rfl⟩
 obtain⟨dl,hdl⟩:∃dl,tv.data.length=dl:=⟨_,rfl⟩
 have N:=fun W=>crneed_any (dl:Int) W
 have hvs:vSz tv=if dl≤16 then dl else 4:=by unfold vSz;rw[hdl]
 rw[hm] at q1 q2 hsz;rw[hdl] at hsz2 q3;clear hm hdl hx1 hy c0 c1;have HVS:=Hd hvs;have HQ1:=Hd q1;clear hvs q1;go_upto_region 7 with(fail)
 go_cut [5] (fun s5 wq=>s5=.int .i64 (3+(m:Int)+(dl:Int))∧∃j,wq=wr.drewN j)
 case first=>
  go_quiet (fail)
  go_wp2
  go_meet;exact⟨rfl,_,rfl⟩
 case rest=>
 obtain⟨rfl,j,rfl⟩:=hcut;have hvs:=HVS.out;have q1:=HQ1.out;have hbj:Below w.heap.size w (wr.drewN j):=below_drewN hb j;have hownj:=own_held hown (below_drewN (Below.refl _ _) j);have hbxj:=hbx.step (below_drewN (Below.refl _ _) j);have g1:=hbxj.cell 0 1 rfl rfl;have g2:=hbxj.cell 0 2 rfl rfl;have y0:=(hbj.cell (p:=⟨b,off+i*4,none⟩) hbb)
 have y1:=(hbj.cell (p:=⟨b,off+i*4+1,none⟩) hbb)
 have z0:(wr.drewN j).cell? ⟨b,off+i*4,none⟩=some (.string (strOf k)):=v0;have z1:(wr.drewN j).cell? ⟨b,off+i*4+1,none⟩=some (.string (strOf tv.data)):=v1;clear y0 y1 HVS HQ1 hown hb hbx
 by_cases hd:dl≤16
 ·rw[if_pos hd] at hvs
  rw[hvs] at q1;rw[show needC (dl:Int)=0 by unfold needC;rw[if_pos (.inl (by omega))]] at N;have d4:decide ((400:Int)<dl)=false:=by simp;omega
  have d4':decide (400<dl)=false:=by simp;omega
  obtain⟨v8,w8,hr8,ho8,hg8,hv8⟩:=run_append_new (P:=Tryz.prog) (w:=wr.drewN j) w.heap.size 35 3 i0 _ 1 8 Tryz.underlying35 hi0 hz0 hz1 hz2 rfl (by decide) hownj #[.int .i64 (3+(m:Int)+(dl:Int))] rfl (by intro u hu;simp at hu;subst hu;rfl) (by unfold maxLen;omega) (by omega) hbj.size;have HB8:=Hd (hbj.grown hg8 hbj.size (own_ge hownj));have HX8:=Hd (hbxj.grown hg8 (by intro p hp;simp at hp;subst hp;exact hnb));have HN8:Hid (v8.ownBlock≠some w.heap.size):=Hd (by
   rcases hv8 with h|h
   ·rw[h];exact hnb
   ·rw[h];intro e;have:=hbj.size;have:=Option.some.inj e;omega)
  have HO8:Hid (w8.ownsRow w.heap.size 3 1 v8 (i+1) ((S.take (i+1)).map (Value.int .i64))):=Hd (by
   rw[hst.out,q1,List.map_append,show(3:Int)+(dl:Int)+(m:Int)=3+(m:Int)+(dl:Int) by omega];exact ho8)
  clear ho8 hg8 hv8;clear hownj hbj hbxj hnb q1 hst hvs;go_wp2_with fail;refine(N _).mono ?_;rintro e w2 ⟨rfl,rfl⟩;exact qc8f5eb
 ·rw[if_neg hd] at hvs
  rw[hvs] at q1;obtain⟨v8,w8,hr8,ho8,hg8,hv8⟩:=run_append_new (P:=Tryz.prog) (w:=wr.drewN j) w.heap.size 35 3 i0 _ 1 8 Tryz.underlying35 hi0 hz0 hz1 hz2 rfl (by decide) hownj #[.int .i64 (7+(m:Int))] rfl (by intro u hu;simp at hu;subst hu;rfl) (by unfold maxLen;omega) (by omega) hbj.size;have HB8:=Hd (hbj.grown hg8 hbj.size (own_ge hownj));have HX8:=Hd (hbxj.grown hg8 (by intro p hp;simp at hp;subst hp;exact hnb));have HN8:Hid (v8.ownBlock≠some w.heap.size):=Hd (by
   rcases hv8 with h|h
   ·rw[h];exact hnb
   ·rw[h];intro e;have:=hbj.size;have:=Option.some.inj e;omega)
  have HO8:Hid (w8.ownsRow w.heap.size 3 1 v8 (i+1) ((S.take (i+1)).map (Value.int .i64))):=Hd (by
   rw[hst.out,q1,List.map_append,show(3:Int)+((4:Nat):Int)+(m:Int)=7+(m:Int) by omega];exact ho8)
  clear ho8 hg8 hv8;clear hownj hbj hbxj hnb q1 hst;exact qe53638):p:=h
theorem qaa4dc3 (h:p:=by
 clear HBX hA;obtain⟨i,hi,rfl,hown,hb,hbx,hnb⟩:=hrel;have f1:=hbx.cell 0 1 rfl rfl;have f2:=hbx.cell 0 2 rfl rfl
 by_cases hlt:i<kn
 rotate_left
 ·obtain rfl:i=kn:=by omega
  exact q075758
 obtain⟨b,off,y,pa,pn,pc,ka,kn',kc,rfl,hbb,hy,_,_,_,_,_,c0,c1,_,_⟩:=RNodeOn.cell HV.out hlt;have hst:=Hd (tk_succ S i (by rw[HSL.out];exact hlt))
 first|exact Mk.go 280789 zm q320f95|exact Mk.go 646883 zm q74aea3):p:=h
theorem q79e41f (h:p:=by
 rcases RS.mem.1 hm with e|e
 ·omega
 ·have:=HVB.out _ e;omega):p:=h
theorem q961df2 (h:p:=by
 rw[hwe];have hnb:¬RG wB.heap.size vi (.slice none 0 0) w.heap.size:=fun h=>by have:=h.1;omega
 exact(((AgreeF.refl _).set (.inl hnb)).set (.inl hnb)).set (.inl hnb)):p:=h
theorem q742db7 (h:p:=by
 refine⟨?_,h2⟩
 rcases h1 with⟨h0,_⟩|⟨_,he⟩
 ·exact absurd h0 hu
 ·exact he):p:=h
theorem q68dd29 (h:p:=by
 rintro e w' ⟨rfl,rfl⟩;refine⟨_,rfl,?_,grown_below (Below.refl _ _) _,?_⟩
 ·simp only[takeF,if_pos he];try rfl
 ·simp only[takeF,if_pos he];exact h):p:=h
theorem qd1db3c (h:p:=by
 go_wp2_with fail;go_ret;exact⟨by rw[HR.out];rfl,HB2.out⟩):p:=h
theorem q42d8b3 (h:p:=by
 go_wp2_with fail;go_ret;exact⟨by rw[HR.out];rfl,HBQ.out⟩):p:=h
theorem qdf2305 (h:p:=by
 clear hu hp hd h hl hx g2 g3 g5 g6 h0;exact qf42a29):p:=h
theorem q3aeb28 (h:p:=by
 clear zm;have hp:Below ob wr (w'.setCell ⟨ob,2,none⟩ (.slice a (K.length+1) c)):=hp2.setCell (Nat.le_refl ob) _;refine⟨a,c,w',hrun,hag,hx'.cell 0 2 rfl rfl,hx'.frozen 0 2 rfl,AgreeF.set hag (.inl fun h=>h.2 rfl),⟨hx'.put 2 _ (by intro q hq;simp at hq;subst hq;simp;omega),hn.set hob (fun hf=>hf),h.ld.past (hp.mono (by omega)),h.ag.trans (AgreeF.set ⟨hp1.size,fun x hx _=>hp1.block x hx.1⟩ (.inl fun h=>h.2.2 rfl)),only_past h.ol (by omega) hp,htw,htr,hro,hob,hbb⟩⟩):p:=h
theorem q691b55 (h:p:=by
 clear zm;have hp:Below ob wr (w'.setCell ⟨ob,3,none⟩ (.slice a (V.length+1) c)):=hp2.setCell (Nat.le_refl ob) _;refine⟨a,c,w',hrun,hag,hx'.cell 0 3 rfl rfl,hx'.frozen 0 3 rfl,AgreeF.set hag (.inl fun h=>h.2 rfl),⟨hx'.put 3 _ (by intro q hq;simp at hq;subst hq;simp;omega),hn.set hob (fun hf=>hf),h.ld.past (hp.mono (by omega)),h.ag.trans (AgreeF.set ⟨hp1.size,fun x hx _=>hp1.block x hx.1⟩ (.inl fun h=>h.2.2 rfl)),only_past h.ol (by omega) hp,htw,htr,hro,hob,hbb⟩⟩):p:=h
theorem q62f4f6 (h:p:=by
 clear zm;have hp:Below ob wr (w'.setCell ⟨ob,4,none⟩ (.slice a (C.length+1) c)):=hp2.setCell (Nat.le_refl ob) _;refine⟨a,c,w',hrun,hag,hx'.cell 0 4 rfl rfl,hx'.frozen 0 4 rfl,AgreeF.set hag (.inl fun h=>h.2 rfl),⟨hx'.put 4 _ (by intro q hq;simp at hq;subst hq;simp;omega),hn.set hob (fun hf=>hf),h.ld.past (hp.mono (by omega)),h.ag.trans (AgreeF.set ⟨hp1.size,fun x hx _=>hp1.block x hx.1⟩ (.inl fun h=>h.2.2 rfl)),only_past h.ol (by omega) hp,htw,htr,hro,hob,hbb⟩⟩):p:=h
theorem qd418b0 (h:p:=by
 have hx':=h.box.grown hg (by intro q hq e;have:=hge _ e;simp at hq;rcases hq with rfl|rfl<;>simp at this<;>omega);have hp1:Below B wr w':=(Below.refl _ _).grown hg hlt.2 hge;have hp2:Below ob wr w':=hp1.mono (Nat.le_of_lt hob)
 first|exact Mk.go 861288 zm q3aeb28|exact Mk.go 888277 zm q691b55|exact Mk.go 485238 zm q62f4f6):p:=h
theorem qfd2e77 (h:p:=by
 obtain⟨b,off,y,cs,e1,e2,e3,_,⟨pa,pn,pc,rfl,hr⟩,e6⟩:=TabR.at h hk;exact⟨b,off,y,pa,pn,pc,e1,e2,e3,e6 0 _ rfl,e6 1 _ rfl,hr⟩):p:=h
theorem qd75aca (h:p:=by
 go_wp2_with fail;go_roundw
 case rel=>exact⟨i+1,_,a9,c9,hlt,by go_num,rfl,HDY.out,HLY.out,HOY.out,HBY.out⟩
 case measure=>simp[intOf];omega):p:=h
theorem q125602 (h:p:=by
 have h2:¬((0:Int)=0∧((1:Int)<1∨8<(1:Int))):=by omega
 rw[tNum,if_neg h2,show(1:Int).toNat=1 from rfl,takeF_app _ _ 1 rfl];rfl):p:=h
theorem qb2093d (h:p:=by
 rw[←HGL.out];unfold getNL
 split
 ·rename_i h0
  have:=(nodeB_small (getN_node h0)).1;unfold getNL at this;rw[if_pos h0] at this;exact this
 ·simp):p:=h
theorem q15d91b (h:p:=by
 have hkb:keyB e.key=false:=by simp[keyB];omega
 have HF:Hid (nodeB true l=false):=Hd (HNS.out (by rw[HST.out];simp[keyOkN,hkb]));exact q0ddb2b):p:=h
theorem q5f5823 (h:p:=by
 rw[hwe];have hk:w.heap.size≤w.heap.size:=Nat.le_refl _;exact(((((Below.refl _ _).setCell hk _).setCell hk _).setCell hk _).setCell hk _).setCell hk _):p:=h
end
end Go.Proofs.YtpghlmcoajaiiaaGreatDoor
