/- Texts that other texts of this claim lean on, one behind the other. -/
import Derived.Deep.RegionLaw
import Derived.Deep.RegionWith
import Derived.Laws.CopyOwn
import Derived.Outline
import Derived.Laws.BitsAllLaws
import Derived.Deep.DeepCutAuto
import Derived.Deep.RegionHeld3
import Derived.Deep.QuietTactic
import Derived.BigQuiet
import Derived.Defers
import Derived.Recover
import Derived.RegionTactic
import Derived.IntWalk
import Derived.Laws.EntriesVeiled
import Derived.Laws.StructEq
import Derived.Deep.CutBlock
import Derived.Test.YtpghlmcoajaiiaaGreatDoorM1
import Derived.Laws.BytesArg
import Derived.Laws.MakeOwn
import Derived.Lib.AppendStr
import Derived.Lib.BufferRead
import Derived.Test.YtpghlmcoajaiiaaGreatDoorM2
import Derived.Test.YtpghlmcoajaiiaaGreatDoorM3
set_option maxHeartbeats 20000000
set_option maxRecDepth 100000
namespace Go.Proofs.YtpghlmcoajaiiaaGreatDoor
open Go.RowKit
section
variable {p:Prop}
theorem q77b14d (h:p:=by
 by_cases hlt:i<kn
 ·obtain⟨bk,ok,rfl,hbk9,hck⟩:=HH1.out.at hlt
  have k0:=(hb.cell (p:=⟨bk,ok+i,none⟩) hbk9).trans hck;obtain⟨k,hk⟩:∃k,(keysOf l)[i]?.getD []=k:=⟨_,rfl⟩
  rw[hk] at k0;have HK:=Hd hk;have HX:=Hd hx;have HC:=Hd hc;have HB:=Hd hb;have hbk8:=Nat.lt_of_lt_of_le hbk9 hb.size;have hsl:=hc.sl;rw[show((cellsR (.node p l)).take i).length=i by rw[List.length_take,HCL.out];omega] at hsl;obtain⟨va0,vc0,rfl,hvc0,hvm0,_,_⟩:=hsl;clear hk hck hx hc;obtain⟨bv,ov,kid,kcs,rfl,hbv,hyv,_,hkid,hcv⟩:=TabR.at HV.out hlt;have hkid9:=hkid;cases n with
  | zero=>exact hkid.elim
  | succ n=>
  obtain⟨y1,y2,y3,y4,y5,y6,y7,y8,_,_,ey,_⟩:=hkid.open;subst ey;have v0:=(hb.cell (p:=⟨bv,ov+i*5,none⟩) hbv).trans (hcv 0 _ rfl);have v1:=(hb.cell (p:=⟨bv,ov+i*5+1,none⟩) hbv).trans (hcv 1 _ rfl);have v2:=(hb.cell (p:=⟨bv,ov+i*5+2,none⟩) hbv).trans (hcv 2 _ rfl);have v3:=(hb.cell (p:=⟨bv,ov+i*5+3,none⟩) hbv).trans (hcv 3 _ rfl);have v4:=(hb.cell (p:=⟨bv,ov+i*5+4,none⟩) hbv).trans (hcv 4 _ rfl);have hbv8:=Nat.lt_of_lt_of_le hbv hb.size;obtain⟨c,hc1,hc2⟩:∃c,l[i]? = some c∧c.2=kid:=by
   rw[List.getElem?_map] at hyv;exact Option.map_eq_some_iff.1 hyv
  have hyi:(cellsR (.node p l))[i]? = some ⟨k,⟨[],[]⟩,some kid⟩:=by
   rw[cellsR_node,hc1,←hc2,←HK.out];simp[keysOf,hc1]
  have hal:Below wr.heap.size wr (wr.alloc (.cells #[.string (strOf k),.string ⟨#[]⟩,.slice none 0 0,.slice none 0 0] 145)):=Below.al (Below.refl _ _);have CK:=IH (F:=F) (w:=wr.alloc (.cells #[.string (strOf k),.string ⟨#[]⟩,.slice none 0 0,.slice none 0 0] 145)) (fun b hf=>by have:=hF b hf;simp;omega) ((hkid.below hb).below hal) (by rw[←hc2];exact hbk c (List.mem_of_getElem? hc1));have HYI:=Hd hyi;clear hyv hcv hkid hkid9 hc1 hc2 hyi;go_wp2_with fail;refine CK.mono ?_;rintro e w2 ⟨cs2,rfl,hkn,hb2⟩;obtain⟨a3,c3,ecs,_,_⟩:=hkn.at;subst ecs;have hxq0:=((Boxes.nil wr).alloc #[.string (strOf k),.string ⟨#[]⟩,.slice none 0 0,.slice none 0 0] 145 rfl).step hb2;have hxq1:Boxes (w2.alloc (.cells #[.int .i64 kid.page,.bool kid.isLeaf,.slice a3 (cntT kid) c3] 27)) _:=Boxes.al hxq0;have q3:=hxq1.cell 0 3 rfl rfl;have q3':=hxq1.frozen 0 3 rfl;clear hxq1;obtain⟨wx,hwx⟩:∃wx,(w2.alloc (.cells #[.int .i64 kid.page,.bool kid.isLeaf,.slice a3 (cntT kid) c3] 27)).setCell ⟨wr.heap.size,3,none⟩ (.slice (some ⟨w2.heap.size,0,none⟩) 1 1)=wx:=⟨_,rfl⟩
  have hz2:wr.heap.size+1≤w2.heap.size:=by have:=hb2.size;simpa using this
  have hwb2:Below wr.heap.size wr w2:=hal.trans (hb2.mono hal.size);have hwb:Below wr.heap.size wr wx:=by rw[←hwx];exact Below.st (Below.al hwb2) (Nat.le_refl _)
  have hxq:Boxes wx [(wr.heap.size,[.string (strOf k),.string ⟨#[]⟩,.slice none 0 0,.slice (some ⟨w2.heap.size,0,none⟩) 1 1])]:=by rw[←hwx];exact(Boxes.al hxq0).put 3 _ (by simp)
  have hxk:Boxes wx [(w2.heap.size,[.int .i64 kid.page,.bool kid.isLeaf,.slice a3 (cntT kid) c3])]:=by rw[←hwx];exact Boxes.st ((Boxes.nil w2).alloc #[.int .i64 kid.page,.bool kid.isLeaf,.slice a3 (cntT kid) c3] 27 rfl) (by intro p hp;simp at hp;subst hp;simp;omega)
  have hagr:AgreeF (Fr F (wr.alloc (.cells #[.string (strOf k),.string ⟨#[]⟩,.slice none 0 0,.slice none 0 0] 145))) w2 wx:=by
   rw[←hwx];refine AgreeF.set (AgreeF.of_below (Below.al (Below.refl _ _))) (.inl fun hf=>?_)
   rcases hf with hf|hf
   ·have:=hF _ hf;simp at this;have:=hb.size;omega
   ·simp at hf;omega
  have hge0:∀b,(Value.slice va0 i vc0).ownBlock=some b→w.heap.size+3≤b∧b<wr.heap.size:=fun b hb=>HC.out.block hb
  have hkx:RNodeOn (Gp F (w.heap.size+3) (.slice va0 i vc0)) (n+1) wx [.int .i64 kid.page,.bool kid.isLeaf,.slice a3 (cntT kid) c3] kid:=(hkn.agree hagr).mono (fun b hf=>by
   rcases hf with hf|hf
   ·exact⟨.inl hf,fun e=>by have:=(hge0 b e).1;have:=hF b hf;omega⟩
   ·simp at hf
    exact⟨.inr (by omega),fun e=>by have:=(hge0 b e).2;omega⟩)
  have hy:RcOn (Gp F (w.heap.size+3) (.slice va0 i vc0)) (n+1) wx [.string (strOf k),.string ⟨#[]⟩,.slice none 0 0,.slice (some ⟨w2.heap.size,0,none⟩) 1 1] ⟨k,⟨[],[]⟩,some kid⟩:=by
   refine⟨none,0,0,some ⟨w2.heap.size,0,none⟩,1,1,rfl,⟨rfl,Nat.le_refl _,by unfold maxLen;omega,fun _=>rfl,.inl rfl⟩,Fa.zero _ _,⟨rfl,Nat.le_refl _,by unfold maxLen;omega,fun h=>(by cases h),.inr ⟨w2.heap.size,0,rfl,hxk.lt 0 rfl,fun j y hj=>?_⟩⟩,.inr fun b off e=>?_⟩
   ·cases j with
    | succ j=>cases hj
    | zero=>
     cases hj;exact⟨_,rfl,hkx,fun j v hv=>by have:=hxk.cell 0 j rfl hv;simpa using this⟩
   ·cases e
    exact⟨.inr (by omega),fun e=>by have:=(hge0 _ e).2;omega⟩
  have hyi:=HYI.out;clear hkn hagr hkx hge0 hxk hxq0 hwb2 CK hb2;obtain⟨v',w8,hr8,hc8,hg8⟩:=CellsOwn.append (P:=Tryz.prog) (t:=25) Tryz.underlying25 info_Cc (HC.out.below hwb) (by have:=hwb.size;omega) (fun b hf=>by have:=hF b hf;omega) (by rw[List.length_take];omega) hy;rw[←List.take_succ_eq_append_of hyi] at hc8;have hlen:((cellsR (.node p l)).take (i+1)).length=i+1:=by rw[List.length_take,HCL.out];omega
  have mbffc7b:=trivial;exact qfbe583
 ·obtain rfl:i=kn:=by omega
  have hc9:CellsOwn 145 F n (w.heap.size+3) wr v (cellsR (.node p l)):=by
   have:=hc
   rwa [List.take_of_length_le (by rw[HCL.out];exact Nat.le_refl _)] at this
  have hsl:=hc9.sl;rw[HCL.out] at hsl;obtain⟨va0,vc0,rfl,hvc0,hvm0,_,_⟩:=hsl;have HC:=Hd hc9;have HB:=Hd hb;have z0:=hx.cell 1 0 rfl rfl;have z1:=hx.cell 1 1 rfl rfl;have z2:=hx.cell 1 2 rfl rfl;have y0:=hx.frozen 1 0 rfl;have y1:=hx.frozen 1 1 rfl;have y2:=hx.frozen 1 2 rfl;have HXE:=Hd hx;clear hc hc9 hx hb;have hend:RNodeTo F (n+1) w (.node p l) (.returned (.agg #[.int .i64 p,.bool false,.slice va0 i vc0])) (((wr.setCell ⟨w.heap.size+1,0,none⟩ (.int .i64 p)).setCell ⟨w.heap.size+1,1,none⟩ (.bool false)).setCell ⟨w.heap.size+1,2,none⟩ (.slice va0 i vc0)):=by
   have mf7366d:=trivial;exact q1e80c2
  have hxw:=(((HXE.out.sub (m:=[(w.heap.size+1,[.int .i64 0,.bool false,.slice none 0 0])]) (by simp)).put 0 (.int .i64 p) (by simp)).put 1 (.bool false) (by simp)).put 2 (.slice va0 i vc0) (by simp);have g0:=hxw.cell 0 0 rfl rfl;have g1:=hxw.cell 0 1 rfl rfl;have g2:=hxw.cell 0 2 rfl rfl;have HG:=Hd (And.intro g0 (And.intro g1 g2));clear g0 g1 g2 hxw;have HE:=Hd hend;clear hend;go_wp2_with fail;refine bodyPost_ret (v:=.agg #[.int .i64 p,.bool false,.slice va0 i vc0]) (by obtain⟨g0,g1,g2⟩:=HG.out;simp only[results,Tryz.results18];simp[go_sem,g0,g1,g2]) rfl ?_;exact HE.out):p:=h
theorem q3e75f7 (h:p:=by
 obtain⟨i,v,hi,rfl,hx,hc,hb⟩:=hrel;clear HX0 HB0;have hx0:=hx.lt 2 rfl;have hx1:=hx.lt 1 rfl;have hx2:=hx.lt 0 rfl;have n0:=hx.cell 2 0 rfl rfl;have n1:=hx.cell 2 1 rfl rfl;have n2:=hx.cell 2 2 rfl rfl;have n3:=hx.cell 2 3 rfl rfl;have n4:=hx.cell 2 4 rfl rfl;have o0:=hx.cell 0 0 rfl rfl;have o1:=hx.cell 0 1 rfl rfl;have o2:=hx.cell 0 2 rfl rfl;have u2:=hx.frozen 0 2 rfl
 first|(have:=m5a5905;exact q5a5905)|(have:=m77b14d;exact q77b14d)):p:=h
theorem q5c06a7 (h:p:=by
 have HE:Hid (RLeafPost w sb a len cap d r v (valL d r seen ⟨vd,false,vs,vp⟩) (.returned (.agg #[.string (strOf vd),.slice none 0 0])) ((w1.setCell ⟨w.heap.size+1,0,none⟩ (.string (strOf vd))).setCell ⟨w.heap.size+1,1,none⟩ (.slice none 0 0))):=Hd (by
  have hb2:Below w.heap.size w ((w1.setCell ⟨w.heap.size+1,0,none⟩ (.string (strOf vd))).setCell ⟨w.heap.size+1,1,none⟩ (.slice none 0 0)):=(hb1.setCell (by show w.heap.size≤w.heap.size+1;omega) _).setCell (by show w.heap.size≤w.heap.size+1;omega) _;refine⟨_,none,0,0,v,seen,0,rfl,h.below hb2,Only.of_below hb2,Turn.refl _ _,?_⟩;unfold valL;rw[if_pos rfl];exact⟨rfl,rfl,none,0,0,rfl,⟨rfl,by simp,by unfold maxLen;omega,fun _=>rfl,.inl rfl⟩,.inl rfl⟩)
 clear hd1 hx1 hx2 h hb1;go_enter Tryz.func102,Tryz.ntmps102;go_wp2_with fail;refine bodyPost_ret (v:=.agg #[.string (strOf vd),.slice none 0 0]) (by simp[results,Tryz.results102,go_sem,z0,z1]) rfl ?_;exact HE.out):p:=h
theorem q78d0a4 (h:p:=by
 have HE:Hid (ValPost T w lb mb da M d r (valL d r seen ⟨vd,false,vs,vp⟩) (.returned (.agg #[.string (strOf vd),.slice none 0 0])) ((w1.setCell ⟨w.heap.size+1,0,none⟩ (.string (strOf vd))).setCell ⟨w.heap.size+1,1,none⟩ (.slice none 0 0))):=Hd (by
  have hb2:Below w.heap.size w ((w1.setCell ⟨w.heap.size+1,0,none⟩ (.string (strOf vd))).setCell ⟨w.heap.size+1,1,none⟩ (.slice none 0 0)):=(hb1.setCell (by show w.heap.size≤w.heap.size+1;omega) _).setCell (by show w.heap.size≤w.heap.size+1;omega) _;refine⟨Only.of_below hb2,?_⟩;unfold valL;rw[if_pos rfl];exact⟨_,rfl,⟨none,0,0,rfl,⟨rfl,by simp,by unfold maxLen;omega,fun _=>rfl,.inl rfl⟩,.inl rfl⟩,h.below hT hb2⟩)
 clear hd1 hx1 hx2 h hb1;go_enter Tryz.func97,Tryz.ntmps97;go_wp2_with fail;refine bodyPost_ret (v:=.agg #[.string (strOf vd),.slice none 0 0]) (by simp[results,Tryz.results97,go_sem,z0,z1]) rfl ?_;exact HE.out):p:=h
theorem q720e2e (h:p:=by
 have v0:=hx1.cell 1 0 rfl rfl;have v1:=hx1.cell 1 1 rfl rfl;have hx2:=(hx1.put 0 (.string (strOf vd)) (by intro q hq;simp at hq;subst hq;simp)).put 1 (.slice none 0 0) (by intro q hq;simp at hq;subst hq;simp);have z0:=hx2.cell 0 0 rfl rfl;have z1:=hx2.cell 0 1 rfl rfl;have k0:=hx1.cell 0 0 rfl rfl;have k1:=hx1.cell 0 1 rfl rfl;have f0:=hx1.frozen 0 0 rfl;have f1:=hx1.frozen 0 1 rfl
 first|(have:=m5c06a7;exact q5c06a7)|(have:=m78d0a4;exact q78d0a4)):p:=h
theorem q2848ab (h:p:=by
 go_wp2
 go_ret;exact⟨ret_int (by unfold neighF;split<;>omega),rfl⟩):p:=h
theorem qf09442 (h:p:=by
 have HB:=Hd hb;have f2:=hx.cell 0 2 rfl rfl;have d0:decide ((i:Int)<(i:Int))=false:=by simp
 clear hfit hrest hb hx;go_wp2_with fail;go_ret;exact⟨by rw[HR.out];rfl,HB.out⟩):p:=h
theorem qbdac8e (h:p:=by
 clear c0 c1 c2 c3 c4 d1 p0 hC hC7 hb7 B6 hr6 hp6 hbl6 hlq hsub;go_wp2_with fail;go_roundw
 case rel=>exact⟨k+1,by omega,by go_num,HU.out,B8,hb8⟩
 case measure=>simp[intOf];omega):p:=h
theorem q03511a (h:p:=by
 go_wp2_with fail;refine bodyPost_ret (v:=.agg #[.int .i64 p1,.bool l1,.slice a1 m1 d1]) (by simp only[results,Tryz.results87];simp[go_sem,t0,t1,t2]) rfl ?_;rw[HTE.out];exact HE.out):p:=h
theorem q750619 (h:p:=by
 go_upto_region 12 with(at_builtin;refine wpList_append_run rfl _ _ _ _ rfl rfl rfl hrun1 ?_)
 clear hrun1 f8 f9 hwz hwb j0 j1 j2 j3 j4 x0 o2 q1 q2 nbz;have hT9:T≤wz.heap.size:=by omega
 have hb0:Below wz.heap.size wz wz.drew:=below_drewN (Below.refl _ _) 1;have hge2:(Value.slice a2 i k2).ownBlock≠some wr.heap.size:=fun e=>by have:=(HMID.out.rows.v.lt e).2;omega
 have hXA:∀(k:Nat) (u:Value),wz.cell? ⟨wr.heap.size,k,none⟩=some u→∀W,AgreeF (fun x=>(Value.slice a2 i k2).ownBlock≠some x∧x≠w5.heap.size+1∧x≠mb) wz W→W.cell? ⟨wr.heap.size,k,none⟩=some u:=fun k u h W hW=>(hW.cell (b:=wr.heap.size) (o:=k) ⟨hge2,by show wr.heap.size≠_;omega,by show wr.heap.size≠_;omega⟩ (by have:=HXZ.out.lt 0 rfl;exact this)).trans h
 have x1:=hXA 1 _ (HXZ.out.cell 0 1 rfl rfl);have x2:=hXA 2 _ (HXZ.out.cell 0 2 rfl rfl);have x3:=hXA 3 _ (HXZ.out.cell 0 3 rfl rfl);have x4:=hXA 4 _ (HXZ.out.cell 0 4 rfl rfl);have o3:=HP.out.box.cell 0 3 rfl rfl;have hA00:AgreeF (fun x=>(Value.slice a2 i k2).ownBlock≠some x∧x≠w5.heap.size+1∧x≠mb) wz wz.drew:=AgreeF.refl _;have CV:=value_any (HP.out.ld.past (hb0.mono hT9)) (show T≤wz.drew.heap.size from hT9) HSOK.out.len ⟨vd,vf,vs,vp⟩ (leaf_page HN.out _ HHENM.out).1;have haf:=HAF.out;cases hv:valL d r s ⟨vd,vf,vs,vp⟩ with
 | error x=>
  rw[valsL_err hv] at haf;have HEP:∀w2,Only [mb] wz.drew w2→PagePost T w lb mb da M d r (n+1) (leafR p R0) (.panicked (errP x)) w2:=fun w2 ho=>⟨HP.out.ol.trans ho,by rw[←haf];rfl⟩
  rw[hv] at CV;clear haf HAF hXA;refine wp_region_held_drew (S:=(fun W=>AgreeF (fun x=>(Value.slice a2 i k2).ownBlock≠some x∧x≠w5.heap.size+1∧x≠mb) wz W)) (by kernel_rfl) (by(repeat (with_reducible first|assumption|exact AgreeF.refl _|apply AgreeF.al|apply AgreeF.dr))) (fun hHeld=>?_);refine tks [0,2] ?_;refine tks [3,4] ?_;refine rdy2 1 5 (fun K hK=>?_) (fun K hK=>?_)
  ·(rw[if_pos (by rfl)];go_wp2_with (fail))
   refine bkA hK (fun hHeld=>?_);clear hK K;refine rdy 5 (fun K hK=>?_)
   (rw[if_pos (by rfl)];go_simp;(with_reducible refine CV.mono ?_);rintro e w2 ⟨ho2,he⟩;have he:e=.panicked (errP x):=he;subst he;exact⟨rfl,HEP _ ho2⟩)
  ·(rw[if_pos (by rfl)];go_simp;(with_reducible refine CV.mono ?_);rintro e w2 ⟨ho2,he⟩;have he:e=.panicked (errP x):=he;subst he;exact⟨rfl,HEP _ ho2⟩)
 | ok y=>
  obtain⟨s2,tv⟩:=y;rw[valsL_ok hv,afterL_app] at haf;have haf2:afterL (Li++[(key,tv)]) (valsL d r s2 (gl.drop (i+1)))=R0:=haf;have HAF2:=Hd haf2;have HV:=Hd hv;rw[hv] at CV;have PC:∀(w2:World) (e1:Value),Only [mb] wz.drew w2→TvOn (fun b=>wz.drew.heap.size≤b) w2 [.string (strOf tv.data),e1] tv→LdIn T w2 lb mb da M d r s2→∃a9 c9 w9,(Builtin.append_ #[47,47] 47 #[.slice a2 i k2,.slice (some ⟨w2.heap.size,0,none⟩) 1 1]).run Tryz.prog (w2.alloc (.cells #[.string (strOf tv.data),e1] 101))=.ok (.slice a9 (i+1) c9) w9∧w9.cell? ⟨w5.heap.size+1,3,none⟩=some (.slice a2 i k2)∧w9.frozen? ⟨w5.heap.size+1,3,none⟩=false∧w2.cell? ⟨w5.heap.size+1,3,none⟩=some (.slice a2 i k2)∧w5.heap.size+1<w2.heap.size ∧
   AgreeF (fun x=>(Value.slice a2 i k2).ownBlock≠some x∧x≠w5.heap.size+1∧x≠mb) wz w2∧AgreeF (fun x=>(Value.slice a2 i k2).ownBlock≠some x∧x≠w5.heap.size+1∧x≠mb) wz w9∧AgreeF (fun x=>(Value.slice a2 i k2).ownBlock≠some x∧x≠w5.heap.size+1∧x≠mb) wz (w9.setCell ⟨w5.heap.size+1,3,none⟩ (.slice a9 (i+1) c9))∧Hid (LMid T w w6 lb mb da M d r s2 (w5.heap.size+1) w.heap.size (w5.heap.size+2) n p true (.slice a' (i+1) c') (.slice a9 (i+1) c9) (.slice a3 0 k3) (keysOf (Li++[(key,tv)])) ((Li++[(key,tv)]).map (·.2)) [] (w9.setCell ⟨w5.heap.size+1,3,none⟩ (.slice a9 (i+1) c9))):=fun w2 e1 ho hon hl2=>by
   have hm2:=(HP.out.below hb0).turn ho hl2;have hy:TvOn (G3 (fun _=>False) (w5.heap.size+2) (.slice a' (i+1) c') (.slice a2 i k2) (.slice a3 0 k3)) w2 [.string (strOf tv.data),e1] tv:=hon.mono (fun b hb=>by
    have hb:wz.heap.size≤b:=hb;exact⟨.inr (by have:=HP.out.lt;omega),fun e=>by have:=(HP.out.rows.k.lt e).2;omega,fun e=>by have:=(HP.out.rows.v.lt e).2;omega,fun e=>by have:=(HP.out.rows.c.lt e).2;omega⟩)
   obtain⟨a9,c9,w9,hrun2,hA3,f8,f9,hA4,hmidQ⟩:=hm2.pushV (by rw[show(Li.map (·.2)).length=i by simp;exact HLI.out];have:=HLI.out;omega) hy;have e2:keysOf Li++[key]=keysOf (Li++[(key,tv)]):=by simp[keysOf]
   have e3:Li.map (·.2)++[tv]=(Li++[(key,tv)]).map (·.2):=by simp
   rw[show(Li.map (·.2)).length=i by simp;exact HLI.out] at hrun2 hA4 hmidQ;rw[e2,e3] at hmidQ;have hag:AgreeF (fun x=>(Value.slice a2 i k2).ownBlock≠some x∧x≠w5.heap.size+1∧x≠mb) wz w2:=⟨ho.size,fun b hb hlt=>ho.block hlt (by simp;exact hb.2.2)⟩
   exact⟨a9,c9,w9,hrun2,f8,f9,hm2.box.cell 0 3 rfl rfl,hm2.lt.1,hag,hag.trans (hA3.sub fun x hx=>⟨hx.1,hx.2.1⟩),hag.trans (hA4.sub fun x hx=>⟨hx.1,hx.2.1⟩),Hd hmidQ⟩
  have HSOK2:=Hd (valL_seen HV.out (leaf_page HN.out _ HHENM.out).2 HSOK.out).1;clear haf haf2 HAF hXA hv
  skip
  refine wp_region_held_drew (S:=(fun W=>AgreeF (fun x=>(Value.slice a2 i k2).ownBlock≠some x∧x≠w5.heap.size+1∧x≠mb) wz W)) (by kernel_rfl) (by(repeat (with_reducible first|assumption|exact AgreeF.refl _|apply AgreeF.al|apply AgreeF.dr))) (fun hHeld=>?_);refine tks [0,2] ?_;refine tks [3,4] ?_;refine rdy2 1 5 (fun K hK=>?_) (fun K hK=>?_)
  ·(rw[if_pos (by rfl)];go_wp2_with (fail))
   refine bkA hK (fun hHeld=>?_);clear hK K;refine rdy 5 (fun K hK=>?_)
   (rw[if_pos (by rfl)];go_simp;(with_reducible refine CV.mono ?_);rintro e w2 ⟨ho2,e1,rfl,hon2,hl2⟩;obtain⟨a9,c9,w9,hrun2,f8,f9,f7,hlt9,hA1,hA3,hA4,HQ⟩:=PC _ _ ho2 hon2 hl2;clear CV PC hon2 hl2;dsimp only)
   refine bkA hK (fun hHeld=>?_);clear hK K;refine rdy 6 (fun K hK=>?_)
   (rw[if_pos (by rfl)];go_wp2_with (fail))
   exact qdf4017
  ·(rw[if_pos (by rfl)];go_simp;(with_reducible refine CV.mono ?_);rintro e w2 ⟨ho2,e1,rfl,hon2,hl2⟩;obtain⟨a9,c9,w9,hrun2,f8,f9,f7,hlt9,hA1,hA3,hA4,HQ⟩:=PC _ _ ho2 hon2 hl2;clear CV PC hon2 hl2;dsimp only)
   refine bkA hK (fun hHeld=>?_);clear hK K;refine rdy2 1 6 (fun K hK=>?_) (fun K hK=>?_)
   ·(rw[if_pos (by rfl)];go_wp2_with (fail))
    refine bkA hK (fun hHeld=>?_);clear hK K;refine rdy 6 (fun K hK=>?_)
    (rw[if_pos (by rfl)];go_wp2_with (fail))
    exact qdf4017
   ·(rw[if_pos (by rfl)];go_wp2_with (fail))
    refine bkA hK (fun hHeld=>?_);clear hK K;refine rdy 1 (fun K hK=>?_)
    (rw[if_pos (by rfl)];go_wp2_with (fail))
    exact qdf4017):p:=h
theorem q745f81 (h:p:=by
 go_upto_region 13 with(at_builtin;refine wpList_append_run rfl _ _ _ _ rfl rfl rfl hrun1 ?_)
 clear hrun1 f8 f9 hwz hwb j0 j1 j2 j3 j4 x0 o2 q1 q2 nbz;have hT9:T≤wz.heap.size:=by omega
 have hb0:Below wz.heap.size wz wz.drew:=below_drewN (Below.refl _ _) 1;have hge2:(Value.slice a3 i k3).ownBlock≠some wr.heap.size:=fun e=>by have:=(HMID.out.rows.c.lt e).2;omega
 have hXA:∀(k:Nat) (u:Value),wz.cell? ⟨wr.heap.size,k,none⟩=some u→∀W,AgreeF (fun x=>(Value.slice a3 i k3).ownBlock≠some x∧x≠w5.heap.size+1∧x≠mb) wz W→W.cell? ⟨wr.heap.size,k,none⟩=some u:=fun k u h W hW=>(hW.cell (b:=wr.heap.size) (o:=k) ⟨hge2,by show wr.heap.size≠_;omega,by show wr.heap.size≠_;omega⟩ (by have:=HXZ.out.lt 0 rfl;exact this)).trans h
 have x1:=hXA 1 _ (HXZ.out.cell 0 1 rfl rfl);have x2:=hXA 2 _ (HXZ.out.cell 0 2 rfl rfl);have x3:=hXA 3 _ (HXZ.out.cell 0 3 rfl rfl);have x4:=hXA 4 _ (HXZ.out.cell 0 4 rfl rfl);have o3:=HP.out.box.cell 0 4 rfl rfl;have hA00:AgreeF (fun x=>(Value.slice a3 i k3).ownBlock≠some x∧x≠w5.heap.size+1∧x≠mb) wz wz.drew:=AgreeF.refl _;have CV:=IH (HP.out.ld.past (hb0.mono hT9)) (show T≤wz.drew.heap.size from hT9) HSOK.out hroom (show I64 vp by have:=HN3.out (by trivial) _ HHENM.out;dsimp only at this;unfold I64;omega) (show vp≠0 by have:=HN3.out (by trivial) _ HHENM.out;dsimp only at this;omega);have haf:=HAF.out;cases hv:loadT d r n s vp with
 | error x=>
  rw[kidsL_err hv] at haf;have HEP:∀w2,Only [mb] wz.drew w2→PagePost T w lb mb da M d r (n+1) (nodeR p R0) (.panicked (errP x)) w2:=fun w2 ho=>⟨HP.out.ol.trans ho,by rw[←haf];rfl⟩
  rw[hv] at CV;clear haf HAF hXA;refine wp_region_held_drew (S:=(fun W=>AgreeF (fun x=>(Value.slice a3 i k3).ownBlock≠some x∧x≠w5.heap.size+1∧x≠mb) wz W)) (by kernel_rfl) (by(repeat (with_reducible first|assumption|exact AgreeF.refl _|apply AgreeF.al|apply AgreeF.dr))) (fun hHeld=>?_);refine tks [0,2] ?_;refine tks [3,4,5] ?_;refine rdy2 1 6 (fun K hK=>?_) (fun K hK=>?_)
  ·(rw[if_pos (by rfl)];go_wp2_with (fail))
   refine bkA hK (fun hHeld=>?_);clear hK K;refine rdy 6 (fun K hK=>?_)
   (rw[if_pos (by rfl)];go_simp;(with_reducible refine CV.mono ?_);rintro e w2 ⟨ho2,he⟩;have he:e=.panicked (errP x):=he;subst he;exact⟨rfl,HEP _ ho2⟩)
  ·(rw[if_pos (by rfl)];go_simp;(with_reducible refine CV.mono ?_);rintro e w2 ⟨ho2,he⟩;have he:e=.panicked (errP x):=he;subst he;exact⟨rfl,HEP _ ho2⟩)
 | ok y=>
  obtain⟨s2,kid⟩:=y;rw[kidsL_ok hv,afterL_app] at haf;have haf2:afterL (Li++[(key,kid)]) (kidsL (loadT d r n) s2 (gl.drop (i+1)))=R0:=haf;have HAF2:=Hd haf2;have HV:=Hd hv;rw[hv] at CV;have PC:∀(w2:World) (x0 x1 x2 x3 x4:Value),Only [mb] wz.drew w2→NodeOn (fun b=>wz.drew.heap.size≤b) n w2 [x0,x1,x2,x3,x4] kid→LdIn T w2 lb mb da M d r s2→∃a9 c9 w9,(Builtin.append_ #[48,48] 48 #[.slice a3 i k3,.slice (some ⟨w2.heap.size,0,none⟩) 1 1]).run Tryz.prog (w2.alloc (.cells #[x0,x1,x2,x3,x4] 50))=.ok (.slice a9 (i+1) c9) w9∧w9.cell? ⟨w5.heap.size+1,4,none⟩=some (.slice a3 i k3)∧w9.frozen? ⟨w5.heap.size+1,4,none⟩=false∧w2.cell? ⟨w5.heap.size+1,4,none⟩=some (.slice a3 i k3)∧w5.heap.size+1<w2.heap.size ∧
   AgreeF (fun x=>(Value.slice a3 i k3).ownBlock≠some x∧x≠w5.heap.size+1∧x≠mb) wz w2∧AgreeF (fun x=>(Value.slice a3 i k3).ownBlock≠some x∧x≠w5.heap.size+1∧x≠mb) wz w9∧AgreeF (fun x=>(Value.slice a3 i k3).ownBlock≠some x∧x≠w5.heap.size+1∧x≠mb) wz (w9.setCell ⟨w5.heap.size+1,4,none⟩ (.slice a9 (i+1) c9))∧Hid (LMid T w w6 lb mb da M d r s2 (w5.heap.size+1) w.heap.size (w5.heap.size+2) n p false (.slice a' (i+1) c') (.slice a2 0 k2) (.slice a9 (i+1) c9) (keysOf (Li++[(key,kid)])) [] ((Li++[(key,kid)]).map (·.2)) (w9.setCell ⟨w5.heap.size+1,4,none⟩ (.slice a9 (i+1) c9))):=fun w2 x0 x1 x2 x3 x4 ho hon hl2=>by
   have hm2:=(HP.out.below hb0).turn ho hl2;have hy:NodeOn (G3 (fun _=>False) (w5.heap.size+2) (.slice a' (i+1) c') (.slice a2 0 k2) (.slice a3 i k3)) n w2 [x0,x1,x2,x3,x4] kid:=NodeOn.mono (fun b hb=>by
    have hb:wz.heap.size≤b:=hb;exact⟨.inr (by have:=HP.out.lt;omega),fun e=>by have:=(HP.out.rows.k.lt e).2;omega,fun e=>by have:=(HP.out.rows.v.lt e).2;omega,fun e=>by have:=(HP.out.rows.c.lt e).2;omega⟩) hon
   obtain⟨a9,c9,w9,hrun2,hA3,f8,f9,hA4,hmidQ⟩:=hm2.pushC (by rw[show(Li.map (·.2)).length=i by simp;exact HLI.out];have:=HLI.out;omega) hy;have e2:keysOf Li++[key]=keysOf (Li++[(key,kid)]):=by simp[keysOf]
   have e3:Li.map (·.2)++[kid]=(Li++[(key,kid)]).map (·.2):=by simp
   rw[show(Li.map (·.2)).length=i by simp;exact HLI.out] at hrun2 hA4 hmidQ;rw[e2,e3] at hmidQ;have hag:AgreeF (fun x=>(Value.slice a3 i k3).ownBlock≠some x∧x≠w5.heap.size+1∧x≠mb) wz w2:=⟨ho.size,fun b hb hlt=>ho.block hlt (by simp;exact hb.2.2)⟩
   exact⟨a9,c9,w9,hrun2,f8,f9,hm2.box.cell 0 4 rfl rfl,hm2.lt.1,hag,hag.trans (hA3.sub fun x hx=>⟨hx.1,hx.2.1⟩),hag.trans (hA4.sub fun x hx=>⟨hx.1,hx.2.1⟩),Hd hmidQ⟩
  have HSOK2:=Hd (loadT_seen HP.out.ld.dok (show vp≠0 by have:=HN3.out (by trivial) _ HHENM.out;dsimp only at this;omega) HSOK.out hv);clear haf haf2 HAF hXA hv;have hroom2:roomL s2<n:=by
   obtain⟨_,l,el⟩:=HSOK2.out;have:=roomL_mono (seen:=s) (l:=l);rw[el];omega
  skip
  refine wp_region_held_drew (S:=(fun W=>AgreeF (fun x=>(Value.slice a3 i k3).ownBlock≠some x∧x≠w5.heap.size+1∧x≠mb) wz W)) (by kernel_rfl) (by(repeat (with_reducible first|assumption|exact AgreeF.refl _|apply AgreeF.al|apply AgreeF.dr))) (fun hHeld=>?_);refine tks [0,2] ?_;refine tks [3,4,5] ?_;refine rdy2 1 6 (fun K hK=>?_) (fun K hK=>?_)
  ·(rw[if_pos (by rfl)];go_wp2_with (fail))
   refine bkA hK (fun hHeld=>?_);clear hK K;refine rdy 6 (fun K hK=>?_)
   (rw[if_pos (by rfl)];go_simp;(with_reducible refine CV.mono ?_);rintro e w2 ⟨ho2,cs2,rfl,hon2,hl2⟩;obtain⟨u1,u2,u3,u4,u5,u6,u7,u8,_,_,eu,_⟩:=NodeOn.open_pos hon2;subst eu;obtain⟨a9,c9,w9,hrun2,f8,f9,f7,hlt9,hA1,hA3,hA4,HQ⟩:=PC _ _ _ _ _ _ ho2 hon2 hl2;clear CV PC hon2 hl2;dsimp only)
   refine bkA hK (fun hHeld=>?_);clear hK K;refine rdy 7 (fun K hK=>?_)
   (rw[if_pos (by rfl)];go_wp2_with (fail))
   exact qa6eaf4
  ·(rw[if_pos (by rfl)];go_simp;(with_reducible refine CV.mono ?_);rintro e w2 ⟨ho2,cs2,rfl,hon2,hl2⟩;obtain⟨u1,u2,u3,u4,u5,u6,u7,u8,_,_,eu,_⟩:=NodeOn.open_pos hon2;subst eu;obtain⟨a9,c9,w9,hrun2,f8,f9,f7,hlt9,hA1,hA3,hA4,HQ⟩:=PC _ _ _ _ _ _ ho2 hon2 hl2;clear CV PC hon2 hl2;dsimp only)
   refine bkA hK (fun hHeld=>?_);clear hK K;refine rdy2 1 7 (fun K hK=>?_) (fun K hK=>?_)
   ·(rw[if_pos (by rfl)];go_wp2_with (fail))
    refine bkA hK (fun hHeld=>?_);clear hK K;refine rdy 7 (fun K hK=>?_)
    (rw[if_pos (by rfl)];go_wp2_with (fail))
    exact qa6eaf4
   ·(rw[if_pos (by rfl)];go_wp2_with (fail))
    refine bkA hK (fun hHeld=>?_);clear hK K;refine rdy 1 (fun K hK=>?_)
    (rw[if_pos (by rfl)];go_wp2_with (fail))
    exact qa6eaf4):p:=h
theorem qbc82a4 (h:p:=by
 have HP:=Hd hmidP;have HXZ:=Hd hxz;have HMID:=Hd hmid;have HAF:=Hd haf;have HLI:=Hd hLi;have HSOK:=Hd hsok;have HHEN:=Hd hen;have HHENM:=Hd henm;have q1:decide ((i:Int)<(gl.length:Int))=true:=decide_eq_true (by omega);have q2:decide (i<gl.length)=true:=decide_eq_true hlt;clear hdr hagr k0 k1' k2' k3' k4 hbb hxb hm0 hmidP hxz hmid haf hLi hsok hen henm hA1 hA2 hkeys
 first|(have:=m750619;exact q750619)|(have:=m745f81;exact q745f81)):p:=h
theorem qbb2c82 (h:p:=by
 obtain⟨L,h1,_⟩:=h;refine⟨own_ge h1 b hb,?_⟩
 rcases h1.2 with⟨rfl,_⟩|⟨g,cap,cur,rfl,_,hg,_⟩
 ·cases hb
 ·cases hb;exact(Array.getElem?_eq_some_iff.1 hg).1):p:=h
theorem q6622f6 (h:p:=by
 go_enter Tryz.func105,Tryz.ntmps105;exact q72c811):p:=h
theorem q687f8d (h:p:=by
 go_enter Tryz.func107,Tryz.ntmps107;exact q72c811):p:=h
theorem q01f38c (h:p:=by
 go_enter Tryz.func208,Tryz.ntmps208;exact q72c811):p:=h
theorem q7f39ad (h:p:=by
 obtain⟨a,cap,hblk,hbs⟩:=h;have hc1:w.cell? ⟨t,1,none⟩=some (.int .i64 s.e):=by simp[World.cell?,hblk]
 have hne:(s.e == 0)=false:=by simpa using he
 have hne':(s.e != 0)=true:=by simpa using he
 clear he;generalize s.e=er at *
 first|(have:=m6622f6;exact q6622f6)|(have:=m687f8d;exact q687f8d)|(have:=m01f38c;exact q01f38c)):p:=h
theorem q639ae9 (h:p:=by
 induction l with
 | nil=>simp[sumI_nil]
 | cons x l ih=>
  have h1:=h x (by simp);have h2:=ih (fun y hy=>h y (by simp[hy]));rw[sumI_cons];simp only[List.length_cons];omega):p:=h
theorem qf7016b (h:p:=by
 clear HD hfit hpos;go_enter Tryz.func168,Tryz.ntmps168;go_wp2_with fail;refine C.mono ?_;rintro e w' ⟨rfl,rfl⟩;go_wp2_with fail
 go_ret2
 exact rputPostC_bad HB.out (Below.refl _ _)):p:=h
theorem qbe4cde (h:p:=by
 refine tkn [12,14] ?_;refine tkn [13,15] ?_;refine tks [16,17,18] ?_;refine wpAnyH_done (by kernel_rfl) ?_ _;refine NoPanic.normal ?_;have HB13:=Hd (below_then HB12.out (show Below w12.heap.size w12 w12.drew from(Below.refl _ _).drew));go_wp2_with fail;go_ret;exact⟨rfl,HB13.out⟩):p:=h
theorem q002532 (h:p:=by
 refine tks [12,14] ?_;refine rdy 13 (fun K hK=>?_);rw[if_pos (by rfl)]
 go_wp2_with ((go_at_call 18;(with_reducible refine(CP _ ?_).mono ?_);(focus (repeat (with_reducible first|assumption|exact Below.refl _ _|apply Below.al|apply Below.dr)));rintro e wP ⟨cs9,rfl,hrP,hbP⟩;have hBP:Below w12.heap.size w12 wP:=below_via (by(repeat (with_reducible first|assumption|exact Below.refl _ _|apply Below.al|apply Below.dr))) hbP;(obtain⟨g1,g2,g3,rfl⟩:=RNodeOn.open_pos hrP)))
 refine bkw hK (by(repeat (with_reducible first|assumption|exact Below.refl _ _|apply Below.al|apply Below.dr))) (fun hHeld=>?_);clear hK K;refine rdy 15 (fun K hK=>?_);rw[if_pos (by rfl)]
 go_wp2_with ((go_at_call 17;(with_reducible refine(same_any hrP (RNodeOn.below hn12 hBP)).mono ?_);rintro e wS ⟨rfl,hbS⟩;have hBS:Below w12.heap.size w12 wS:=below_via hBP hbS))
 refine bkw hK (by(repeat (with_reducible first|assumption|exact Below.refl _ _|apply Below.al|apply Below.dr))) (fun hHeld=>?_);clear hK K;refine tks [16,17,18] ?_;refine wpAnyH_done (by kernel_rfl) ?_ _;refine NoPanic.normal ?_;have HB13:=Hd (below_then HB12.out hBS);go_wp2_with fail;go_ret;exact⟨rfl,HB13.out⟩):p:=h
theorem qbecf1c (h:p:=by
 go_upto_region 25 with(fail)
 refine wp_region_noPanic ?_;refine wp_region_held_drew (S:=(fun W=>Below w12.heap.size w12 W)) (by kernel_rfl) (by(repeat (with_reducible first|assumption|exact Below.refl _ _|apply Below.al|apply Below.dr))) (fun hHeld=>?_);refine tks [0,1] ?_;refine tks [2,3] ?_;refine tks [4,5] ?_;refine tks [6,7] ?_;refine tks [8,9] ?_;refine tks [10,11] ?_
 first|(have:=mbe4cde;exact qbe4cde)|(have:=m002532;exact q002532)):p:=h
theorem qca3992 (h:p:=by
 have HE:Hid (aptCAt at_ i=false):=Hd (by rw[HAE.out];simp[pgC];omega);go_wp2_with fail
 go_quiet (fail)
 go_wp2_with fail
 go_ret2
 exact HBAD.out _ (below_drewN HB.out nq) HE.out):p:=h
theorem q6e5b4c (h:p:=by
 go_enter Tryz.func68,Tryz.ntmps68;go_wp2_with fail;refine(refNum_any _ _ _ (by omega)).mono ?_;rintro e w1 ⟨rfl,hb⟩;rw[hN.out]
 go_wp2
 go_ret;exact⟨by rw[HT.out];rfl,hb⟩):p:=h
theorem qcffa51 (h:p:=by
 go_wp2_with fail;refine U.mono ?_;rintro e w0 ⟨rfl,rfl⟩;go_wp2_with fail
 go_ret2
 exact END.out):p:=h
theorem q3c7e12 (h:p:=by
 go_enter Tryz.func125,Tryz.ntmps125
 go_wp2_with (go_at_call 150;refine(refSum_any _ _ _ _ _ hr hs).mono ?_;rintro e w' ⟨rfl,rfl⟩)
 go_ret;exact⟨ret_int hat.out.symm,rfl⟩):p:=h
theorem q857c04 (h:p:=by
 rcases e1 with e1|⟨e1,rfl⟩
 ·rw[e1];exact⟨0,m,rfl,e2,e3,by omega,by simp at e5 ⊢;omega⟩
 ·rw[e1];exact⟨0,_,rfl,e2,e3,by omega,by simp<;>omega⟩):p:=h
theorem qa49398 (h:p:=by
 have m7deb1d:=trivial;exact q099904):p:=h
theorem qf189b2 (h:p:=by
 have mbb5ba2:=trivial;exact q099904):p:=h
theorem q2c9ee4 (h:p:=by
 refine bkA hK (fun hHeld=>?_);clear hK K;refine rdy 5 (fun K hK=>?_)
 (rw[if_pos (by rfl)];go_simp;(with_reducible refine CW.mono ?_);rintro e w2 ⟨rfl,hb2⟩;obtain⟨a9,c9,w9,hrun2,f8,f9,f7,hlt9,hA1,hA3,hA4,HQ⟩:=PC _ hb2;clear CW PC hb2;dsimp only)
 refine bkA hK (fun hHeld=>?_);clear hK K;refine rdy 6 (fun K hK=>?_)
 (rw[if_pos (by rfl)];go_wp2_with (fail))
 first|(have:=ma49398;exact qa49398)|(have:=mf189b2;exact qf189b2)):p:=h
theorem qbf2ac7 (h:p:=by
 unfold newOk;rw[show l.all (fun n=>decide (1≤n) && decide (n≤1000))=false from by
  rw[List.all_eq_false];exact⟨n,List.mem_of_getElem? hn,by simp;omega⟩]
 simp):p:=h
theorem q74289f (h:p:=by
 have HK0:=Hd hk0;clear hk0;have HE:Hid (FT=false):=Hd (by rw[HFIT.out,fitTo_bad (i:=0) (by omega) (by unfold fitAt;rw[HKK.out];simp[HK0.out])];rfl);exact q993faf):p:=h
theorem q2257ee (h:p:=by
 rw[cellsR_node] at hy;obtain⟨x,hx1,hx2⟩:=Option.map_eq_some_iff.1 hy;subst hx2;obtain⟨q1,q2⟩:=HS.out i x hx1;obtain⟨k,kid⟩:=x;have v0:=(hb.cell (p:=⟨b,off+i*4,none⟩) hbb).trans c0;have hsz:=strOf_size k;obtain⟨m,hm⟩:∃m,k.length=m:=⟨_,rfl⟩
 dsimp only at *;rw[hm] at q1 q2 hsz;clear hm hx1 hy c0 c1;obtain⟨v8,w8,hr8,ho8,hg8,hv8⟩:=run_append_new (P:=Tryz.prog) (w:=wr) w.heap.size 35 3 i0 _ 1 8 Tryz.underlying35 hi0 hz0 hz1 hz2 rfl (by decide) hown #[.int .i64 (4+(m:Int))] rfl (by intro u hu;simp at hu;subst hu;rfl) (by unfold maxLen;omega) (by omega) hb.size;have mb88622:=trivial;exact q37f2f9):p:=h
theorem q74aea3 (h:p:=by
 rw[cellsR_leaf] at hy;obtain⟨x,hx1,hx2⟩:=Option.map_eq_some_iff.1 hy;subst hx2;obtain⟨q1,q2,q3⟩:=HS.out i x hx1;obtain⟨k,tv⟩:=x;dsimp only at *;have v0:=(hb.cell (p:=⟨b,off+i*4,none⟩) hbb).trans c0;have v1:=(hb.cell (p:=⟨b,off+i*4+1,none⟩) hbb).trans c1;have hsz:=strOf_size k;have hsz2:=strOf_size tv.data;obtain⟨m,hm⟩:∃m,k.length=m:=⟨_,rfl⟩
 obtain⟨dl,hdl⟩:∃dl,tv.data.length=dl:=⟨_,rfl⟩
 have N:=fun W=>crneed_any (dl:Int) W
 have hvs:vSz tv=if dl≤16 then dl else 4:=by unfold vSz;rw[hdl]
 rw[hm] at q1 q2 hsz;rw[hdl] at hsz2 q3;clear hm hdl hx1 hy c0 c1;have HVS:=Hd hvs;have HQ1:=Hd q1;clear hvs q1;go_upto_region 7 with(fail)
 go_cut [5] (fun s5 wq=>s5=.int .i64 (3+(m:Int)+(dl:Int))∧∃j,wq=wr.drewN j)
 case first=>
  go_quiet (fail)
  go_wp2
  go_meet;exact⟨rfl,_,rfl⟩
 case rest=>
 obtain⟨rfl,j,rfl⟩:=hcut;have hvs:=HVS.out;have q1:=HQ1.out;have hbj:Below w.heap.size w (wr.drewN j):=below_drewN hb j;have hownj:=own_held hown (below_drewN (Below.refl _ _) j);have hbxj:=hbx.step (below_drewN (Below.refl _ _) j);have g1:=hbxj.cell 0 1 rfl rfl;have g2:=hbxj.cell 0 2 rfl rfl;have y0:=(hbj.cell (p:=⟨b,off+i*4,none⟩) hbb)
 have y1:=(hbj.cell (p:=⟨b,off+i*4+1,none⟩) hbb)
 have z0:(wr.drewN j).cell? ⟨b,off+i*4,none⟩=some (.string (strOf k)):=v0;have z1:(wr.drewN j).cell? ⟨b,off+i*4+1,none⟩=some (.string (strOf tv.data)):=v1;clear y0 y1 HVS HQ1 hown hb hbx
 by_cases hd:dl≤16
 ·rw[if_pos hd] at hvs
  rw[hvs] at q1;rw[show needC (dl:Int)=0 by unfold needC;rw[if_pos (.inl (by omega))]] at N;have d4:decide ((400:Int)<dl)=false:=by simp;omega
  have d4':decide (400<dl)=false:=by simp;omega
  obtain⟨v8,w8,hr8,ho8,hg8,hv8⟩:=run_append_new (P:=Tryz.prog) (w:=wr.drewN j) w.heap.size 35 3 i0 _ 1 8 Tryz.underlying35 hi0 hz0 hz1 hz2 rfl (by decide) hownj #[.int .i64 (3+(m:Int)+(dl:Int))] rfl (by intro u hu;simp at hu;subst hu;rfl) (by unfold maxLen;omega) (by omega) hbj.size;have HB8:=Hd (hbj.grown hg8 hbj.size (own_ge hownj));have HX8:=Hd (hbxj.grown hg8 (by intro p hp;simp at hp;subst hp;exact hnb));have HN8:Hid (v8.ownBlock≠some w.heap.size):=Hd (by
   rcases hv8 with h|h
   ·rw[h];exact hnb
   ·rw[h];intro e;have:=hbj.size;have:=Option.some.inj e;omega)
  have HO8:Hid (w8.ownsRow w.heap.size 3 1 v8 (i+1) ((S.take (i+1)).map (Value.int .i64))):=Hd (by
   rw[hst.out,q1,List.map_append,show(3:Int)+(dl:Int)+(m:Int)=3+(m:Int)+(dl:Int) by omega];exact ho8)
  clear ho8 hg8 hv8;clear hownj hbj hbxj hnb q1 hst hvs;go_wp2_with fail;refine(N _).mono ?_;rintro e w2 ⟨rfl,rfl⟩;exact qc8f5eb
 ·rw[if_neg hd] at hvs
  rw[hvs] at q1;obtain⟨v8,w8,hr8,ho8,hg8,hv8⟩:=run_append_new (P:=Tryz.prog) (w:=wr.drewN j) w.heap.size 35 3 i0 _ 1 8 Tryz.underlying35 hi0 hz0 hz1 hz2 rfl (by decide) hownj #[.int .i64 (7+(m:Int))] rfl (by intro u hu;simp at hu;subst hu;rfl) (by unfold maxLen;omega) (by omega) hbj.size;have HB8:=Hd (hbj.grown hg8 hbj.size (own_ge hownj));have HX8:=Hd (hbxj.grown hg8 (by intro p hp;simp at hp;subst hp;exact hnb));have HN8:Hid (v8.ownBlock≠some w.heap.size):=Hd (by
   rcases hv8 with h|h
   ·rw[h];exact hnb
   ·rw[h];intro e;have:=hbj.size;have:=Option.some.inj e;omega)
  have HO8:Hid (w8.ownsRow w.heap.size 3 1 v8 (i+1) ((S.take (i+1)).map (Value.int .i64))):=Hd (by
   rw[hst.out,q1,List.map_append,show(3:Int)+((4:Nat):Int)+(m:Int)=7+(m:Int) by omega];exact ho8)
  clear ho8 hg8 hv8;clear hownj hbj hbxj hnb q1 hst;exact qe53638):p:=h
theorem qaa4dc3 (h:p:=by
 clear HBX hA;obtain⟨i,hi,rfl,hown,hb,hbx,hnb⟩:=hrel;have f1:=hbx.cell 0 1 rfl rfl;have f2:=hbx.cell 0 2 rfl rfl
 by_cases hlt:i<kn
 rotate_left
 ·obtain rfl:i=kn:=by omega
  exact q075758
 obtain⟨b,off,y,pa,pn,pc,ka,kn',kc,rfl,hbb,hy,_,_,_,_,_,c0,c1,_,_⟩:=RNodeOn.cell HV.out hlt;have hst:=Hd (tk_succ S i (by rw[HSL.out];exact hlt))
 first|(have:=m2257ee;exact q2257ee)|(have:=m74aea3;exact q74aea3)):p:=h
theorem q961df2 (h:p:=by
 rw[hwe];have hnb:¬RG wB.heap.size vi (.slice none 0 0) w.heap.size:=fun h=>by have:=h.1;omega
 exact(((AgreeF.refl _).set (.inl hnb)).set (.inl hnb)).set (.inl hnb)):p:=h
theorem q742db7 (h:p:=by
 refine⟨?_,h2⟩
 rcases h1 with⟨h0,_⟩|⟨_,he⟩
 ·exact absurd h0 hu
 ·exact he):p:=h
theorem q68dd29 (h:p:=by
 rintro e w' ⟨rfl,rfl⟩;refine⟨_,rfl,?_,grown_below (Below.refl _ _) _,?_⟩
 ·simp only[takeF,if_pos he];try rfl
 ·simp only[takeF,if_pos he];exact h):p:=h
theorem qf7366d (h:p:=by
 exact⟨[.int .i64 p,.bool false,.slice va0 i vc0],rfl,(((HC.out.set _ (h8 0) (h9 0)).set _ (h8 1) (h9 1)).set _ (h8 2) (h9 2)).node (by omega),((HB.out.setCell (h7 0) _).setCell (h7 1) _).setCell (h7 2) _⟩):p:=h
theorem q95eaa0 (h:p:=by
 exact⟨[.int .i64 p,.bool true,.slice va0 i vc0],rfl,(((HC.out.set _ (h8 0) (h9 0)).set _ (h8 1) (h9 1)).set _ (h8 2) (h9 2)).node (by omega),((HB.out.setCell (h7 0) _).setCell (h7 1) _).setCell (h7 2) _⟩):p:=h
theorem q1e80c2 (h:p:=by
 have h9:∀j,¬F (⟨w.heap.size+1,j,none⟩:Addr).block:=fun j hf=>by have:=hF _ hf;simp at this;omega
 have h8:∀j,(⟨w.heap.size+1,j,none⟩:Addr).block<w.heap.size+3:=fun j=>by show w.heap.size+1<_;omega
 have h7:∀j,w.heap.size≤(⟨w.heap.size+1,j,none⟩:Addr).block:=fun j=>by show _≤w.heap.size+1;omega
 first|(have:=mf7366d;exact qf7366d)|(have:=m95eaa0;exact q95eaa0)):p:=h
theorem qba6203 (h:p:=by
 have hsz:=strOf_size tv.data;have C:=fun W=>crneed_any (tv.data.length:Int) W
 rw[hN0] at C;have iw3:IntKind.i64.wrap (((1+S0:Nat):Int)+(N0:Int))=((1+(S0+N0):Nat):Int):=by simp[IntKind.wrap,IntKind.signed,IntKind.bits];omega
 have q1:decide ((i:Int)<(l.length:Int))=true:=decide_eq_true (by omega);have q2:decide (i<l.length)=true:=decide_eq_true hlt;obtain⟨wc,hwc⟩:∃x,x=wr.alloc (.cells #[.string (strOf key),.string (strOf tv.data),.slice pa 0 pc,.slice ka kn kc] 145):=⟨_,rfl⟩
 have hbc:Below wr.heap.size wr wc:=by rw[hwc];exact Below.al (Below.refl _ _)
 have hxc:Boxes wc [(wr.heap.size,[.string (strOf key),.string (strOf tv.data),.slice pa 0 pc,.slice ka kn kc])]:=by rw[hwc];exact(Boxes.nil wr).alloc #[.string (strOf key),.string (strOf tv.data),.slice pa 0 pc,.slice ka kn kc] 145 rfl
 have hx2:=hx.step hbc;have e1:=hx2.cell 0 1 rfl rfl;have e2:=hxc.cell 0 2 rfl rfl;have e3:=hxc.cell 0 1 rfl rfl;have HBW:=Hd (hbw.trans (hbc.mono hbw.size));have HX:=Hd hx2;have HWC:=Hd hwc;have HS1:=Hd hS1;clear hbw hx hx2 hbc hxc hwc hS0 hN0 hS1 hS9 hm hrow hpg hy hx1 k0 k1 k2 k3;go_upto_region 8 with(fail)
 rw[←HWC.out];go_wp2_with fail;refine(C _).mono ?_;rintro e wx ⟨rfl,rfl⟩;go_wp2_with fail;go_roundw
 case rel=>exact⟨i+1,hlt,by go_num,by rw[HS1.out];go_num,HBW.out,HX.out⟩
 case measure=>simp[intOf];omega):p:=h
theorem qe99ff1 (h:p:=by
 have iw3:IntKind.i64.wrap (((1+S0:Nat):Int)+(N0:Int))=((1+(S0+N0):Nat):Int):=by simp[IntKind.wrap,IntKind.signed,IntKind.bits];omega
 have q1:decide ((i:Int)<(l.length:Int))=true:=decide_eq_true (by omega);have q2:decide (i<l.length)=true:=decide_eq_true hlt;obtain⟨wc,hwc⟩:∃x,x=wr.alloc (.cells #[.string (strOf key),.string (strOf []),.slice pa pn pc,.slice (some ⟨b2,off2,none⟩) kn kc] 145):=⟨_,rfl⟩
 have hbc:Below wr.heap.size wr wc:=by rw[hwc];exact Below.al (Below.refl _ _)
 have hxc:Boxes wc [(wr.heap.size,[.string (strOf key),.string (strOf []),.slice pa pn pc,.slice (some ⟨b2,off2,none⟩) kn kc])]:=by rw[hwc];exact(Boxes.nil wr).alloc #[.string (strOf key),.string (strOf []),.slice pa pn pc,.slice (some ⟨b2,off2,none⟩) kn kc] 145 rfl
 have hx2:=hx.step hbc;have e1:=hx2.cell 0 1 rfl rfl;have e2:=hxc.cell 0 2 rfl rfl;have e3:=hxc.cell 0 1 rfl rfl;have hbwc:=hbw.trans (hbc.mono hbw.size);have C:=IH (hon2.agree (AgreeF.of_below hbwc)) hkb hkm (by rw[hN0];omega);rw[hN0] at C;have s0:=(hbwc.cell (p:=⟨b2,off2,none⟩) hb2).trans r0;have s1:=(hbwc.cell (p:=⟨b2,off2+1,none⟩) hb2).trans r1;have s2:=(hbwc.cell (p:=⟨b2,off2+2,none⟩) hb2).trans r2;have e4:=hxc.cell 0 3 rfl rfl;have q5:decide ((0:Int)<(kn:Int))=true:=decide_eq_true (by omega);have q6:decide (0<kn)=true:=decide_eq_true hkn;have HBW:=Hd (hbw.trans (hbc.mono hbw.size));have HX:=Hd hx2;have HWC:=Hd hwc;have HS1:=Hd hS1;clear hbw hx hx2 hbc hxc hwc hS0 hN0 hS1 hS9 hm hy hy2 hx1 hon2 htk hkb hkm hcs2 hbwc r0 r1 r2 k0 k1 k2 k3;go_upto_region 8 with(fail)
 rw[←HWC.out];go_wp2_with fail;refine C.mono ?_;rintro e wx ⟨rfl,hbx⟩;have HB2:=Hd (HBW.out.trans (hbx.mono HBW.out.size));have HX2:=Hd (HX.out.step hbx);clear hbx;go_wp2_with fail;go_roundw
 case rel=>exact⟨i+1,hlt,by go_num,by rw[HS1.out];go_num,HB2.out,HX2.out⟩
 case measure=>simp[intOf];omega):p:=h
theorem q74a8f7 (h:p:=by
 rw[hS1] at hS9;have hm:=HM.out;have hSm:1+S0+N0≤1000000:=by omega
 rw[hS0];have g0:=(hbw.cell (p:=⟨b,off+i*4,none⟩) hbb).trans k0;have g1:=(hbw.cell (p:=⟨b,off+i*4+1,none⟩) hbb).trans k1;have g2:=(hbw.cell (p:=⟨b,off+i*4+2,none⟩) hbb).trans k2;have g3:=(hbw.cell (p:=⟨b,off+i*4+3,none⟩) hbb).trans k3
 first|(have:=mba6203;exact qba6203)|(have:=me99ff1;exact qe99ff1)):p:=h
theorem qd1db3c (h:p:=by
 go_wp2_with fail;go_ret;exact⟨by rw[HR.out];rfl,HB2.out⟩):p:=h
theorem q42d8b3 (h:p:=by
 go_wp2_with fail;go_ret;exact⟨by rw[HR.out];rfl,HBQ.out⟩):p:=h
theorem qdf2305 (h:p:=by
 clear hu hp hd h hl hx g2 g3 g5 g6 h0;exact qf42a29):p:=h
theorem q3aeb28 (h:p:=by
 have hp:Below ob wr (w'.setCell ⟨ob,2,none⟩ (.slice a (K.length+1) c)):=hp2.setCell (Nat.le_refl ob) _;refine⟨a,c,w',hrun,hag,hx'.cell 0 2 rfl rfl,hx'.frozen 0 2 rfl,AgreeF.set hag (.inl fun h=>h.2 rfl),⟨hx'.put 2 _ (by intro q hq;simp at hq;subst hq;simp;omega),hn.set hob (fun hf=>hf),h.ld.past (hp.mono (by omega)),h.ag.trans (AgreeF.set ⟨hp1.size,fun x hx _=>hp1.block x hx.1⟩ (.inl fun h=>h.2.2 rfl)),only_past h.ol (by omega) hp,htw,htr,hro,hob,hbb⟩⟩):p:=h
theorem q691b55 (h:p:=by
 have hp:Below ob wr (w'.setCell ⟨ob,3,none⟩ (.slice a (V.length+1) c)):=hp2.setCell (Nat.le_refl ob) _;refine⟨a,c,w',hrun,hag,hx'.cell 0 3 rfl rfl,hx'.frozen 0 3 rfl,AgreeF.set hag (.inl fun h=>h.2 rfl),⟨hx'.put 3 _ (by intro q hq;simp at hq;subst hq;simp;omega),hn.set hob (fun hf=>hf),h.ld.past (hp.mono (by omega)),h.ag.trans (AgreeF.set ⟨hp1.size,fun x hx _=>hp1.block x hx.1⟩ (.inl fun h=>h.2.2 rfl)),only_past h.ol (by omega) hp,htw,htr,hro,hob,hbb⟩⟩):p:=h
theorem q62f4f6 (h:p:=by
 have hp:Below ob wr (w'.setCell ⟨ob,4,none⟩ (.slice a (C.length+1) c)):=hp2.setCell (Nat.le_refl ob) _;refine⟨a,c,w',hrun,hag,hx'.cell 0 4 rfl rfl,hx'.frozen 0 4 rfl,AgreeF.set hag (.inl fun h=>h.2 rfl),⟨hx'.put 4 _ (by intro q hq;simp at hq;subst hq;simp;omega),hn.set hob (fun hf=>hf),h.ld.past (hp.mono (by omega)),h.ag.trans (AgreeF.set ⟨hp1.size,fun x hx _=>hp1.block x hx.1⟩ (.inl fun h=>h.2.2 rfl)),only_past h.ol (by omega) hp,htw,htr,hro,hob,hbb⟩⟩):p:=h
theorem qd418b0 (h:p:=by
 have hx':=h.box.grown hg (by intro q hq e;have:=hge _ e;simp at hq;rcases hq with rfl|rfl<;>simp at this<;>omega);have hp1:Below B wr w':=(Below.refl _ _).grown hg hlt.2 hge;have hp2:Below ob wr w':=hp1.mono (Nat.le_of_lt hob)
 first|(have:=m3aeb28;exact q3aeb28)|(have:=m691b55;exact q691b55)|(have:=m62f4f6;exact q62f4f6)):p:=h
theorem qfd2e77 (h:p:=by
 obtain⟨b,off,y,cs,e1,e2,e3,_,⟨pa,pn,pc,rfl,hr⟩,e6⟩:=TabR.at h hk;exact⟨b,off,y,pa,pn,pc,e1,e2,e3,e6 0 _ rfl,e6 1 _ rfl,hr⟩):p:=h
theorem qd75aca (h:p:=by
 go_wp2_with fail;go_roundw
 case rel=>exact⟨i+1,_,a9,c9,hlt,by go_num,rfl,HDY.out,HLY.out,HOY.out,HBY.out⟩
 case measure=>simp[intOf];omega):p:=h
theorem q125602 (h:p:=by
 have h2:¬((0:Int)=0∧((1:Int)<1∨8<(1:Int))):=by omega
 rw[tNum,if_neg h2,show(1:Int).toNat=1 from rfl,takeF_app _ _ 1 rfl];rfl):p:=h
theorem q5f1c5e (h:p:=by
 have hB0:Below w.heap.size w w.drew:=(Below.refl _ _).drew;clear ha2 hsl hs hh;go_enter Tryz.func138,Tryz.ntmps138;go_wp2_with fail
 go_region_with (first|(go_at_call 56;refine hT.mono ?_;rintro e w1 ⟨rfl,htk,hlt,hb1⟩;have hB1:=below_then hB0 hb1)|(go_at_call 57;refine(hN _ _ htk).mono ?_;rintro e w2 ⟨_,rfl,rfl,hg2,htk2⟩;have hB2:=below_take hB1 hlt hg2)|(go_at_call 69;refine(hO _ (by assumption)).mono ?_;rintro e wx ⟨rfl,rfl⟩))
 all_goals
  go_wp2
  go_ret3
  exact⟨_,rfl,OwnBss.nil _ _,hB2⟩):p:=h
theorem qc032cd (h:p:=by
 have hB0:Below w.heap.size w w.drew:=(Below.refl _ _).drew;obtain⟨b,off,rfl,hbb,hcell⟩:=h.cell (k:=0) (by omega);have H:=Hd h;have HH:=Hd hh;clear ha2 hsl hs hh hd h;go_enter Tryz.func138,Tryz.ntmps138;go_wp2_with fail
 go_region_with (first|(go_at_call 56;refine hT.mono ?_;rintro e w1 ⟨rfl,htk,hlt,hb1⟩;have hB1:=below_then hB0 hb1)|(go_at_call 57;refine(hN _ _ htk).mono ?_;rintro e w2 ⟨_,rfl,rfl,hg2,htk2⟩;have hB2:=below_take hB1 hlt hg2)|(go_at_call 69;refine(hO _ (by assumption)).mono ?_;rintro e wx ⟨rfl,rfl⟩))
 all_goals
  clear hT hO hN hsl4 htk htk2 hg2 hb1 hB1;have hc4:w2.cell? ⟨b,off+4,none⟩=some (.int .u8 ((kindS l).toNat:Int)):=(hB2.cell (p:=⟨b,off+4,none⟩) hbb).trans (hcell 4 (by omega));have hc5:w2.cell? ⟨b,off+5,none⟩=some (.int .u8 ((numS l:Nat):Int)):=(hB2.cell (p:=⟨b,off+5,none⟩) hbb).trans (hcell 5 (by omega));have hn256:numS l<256:=(l[5]?.getD 0).toNat_lt;obtain⟨i0,hi,hz0,hz1,hz2⟩:=info_parts info_bytes;have hn0:IntKind.i64.wrap ((numS l:Nat):Int)=((numS l:Nat):Int):=IntWalk.i64_in _ (by omega);go_wp2_with fail
  go_quiet (fail)
  clear hc4 hc5 hn0;have hB2:=below_drewN hB2 nq;generalize w2.drewN nq=w3 at *
  rcases hm with⟨hm1,hm2⟩|⟨hm1,hm2⟩
  all_goals
   have HM:=Hd hm2;clear hm2
   try (have hs6:∀W,(Instr.slice 42 (.slice (some ⟨b,off,none⟩) 128 cap) (some (.int .i64 6)) (some (.int .i64 (6+((numS l:Nat):Int)))) (some (.int .i64 128))).run Tryz.prog W=.ok (.slice (some ⟨b,off+6,none⟩) (numS l) 122) W:=sub_run6 b off cap (numS l) hm1 hc.1)
   go_wp2_with fail
   try clear hs6
   go_loopw [8,9,42] (fun v e i wr=>∃k:Nat,k≤m∧i=.int .i64 k∧e=.int .i64 ((endS l k:Nat):Int)∧okSC l k=true∧OwnBss wr w.heap.size v (cutS l k)∧Below w.heap.size w wr) (fun _ _ i _=>m-(intOf i).toNat)
   case atStart=>exact⟨0,Nat.zero_le _,rfl,rfl,rfl,OwnBss.nil _ _,hB2⟩
   case round=>
    obtain⟨k,hk,rfl,rfl,hok,hown,hb⟩:=hrel
    by_cases hlt:k<m
    ·have hck:wr.cell? ⟨b,off+6+k,none⟩=some (.int .u8 ((slotS l k:Nat):Int)):=by
      have hmm:=HM.out;rw[hb.cell (p:=⟨b,off+6+k,none⟩) hbb,Nat.add_assoc,hcell (6+k) (by omega)];rfl
     have hklt:k<122∧k<numS l:=by have:=HM.out;omega
     have hend:=okS_end l k hok;have hsl:=slotS_lt l k;have hes:endS l (k+1)=slotS l k:=rfl;have hok1:=okS_succ l k;rw[hok,Bool.true_and] at hok1
     by_cases hle:slotS l k≤endS l k
     ·obtain⟨sa,hsa,hsr⟩:=sub_run elem_bytes size_bytes (some ⟨b,off,none⟩) 128 cap (slotS l k) (endS l k) (endS l k) hle (Nat.le_refl _) (by omega)
      have hrow:=(H.out.below (Nat.le_refl _) hb).sub (slotS l k) (endS l k) (endS l k) hle (by omega) (Nat.le_refl _) (by omega);rw[←hsa] at hrow;have hrow:Bs wr sa (endS l k-slotS l k) (endS l k-slotS l k) (cellS l k):=hrow;have hcut:=Hd (cutS_succ l k);have HES:=Hd hes;have HOK:Hid (okSC l (k+1)=true):=Hd (by rw[hok1];simpa using hle);clear hsa hes hok1 hok;generalize slotS l k=q at *;generalize endS l k=e at *;generalize cellS l k=c at *;have hle2:¬(e:Int)<(q:Int):=by omega
      go_wp2_with fail;refine(bclone_any sa (e-q) (e-q) c wr hrow (by omega)).mono ?_;rintro e1 w4 ⟨u,rfl,hu,hb4⟩;obtain⟨a9,c9,rfl,_⟩:=own_slice hu;obtain⟨vs,ho1,ho2,ho3⟩:=(hown.below (Nat.le_refl _) hb4).below (Nat.le_refl _) ((Below.refl _ _).alloc (Nat.le_refl _) (.cells #[.slice a9 c.length c9] 42));rw[cutS_length] at ho1;have hcl:(w4.alloc (.cells #[.slice a9 c.length c9] 42)).cell? ⟨w4.heap.size,0,none⟩=some (.slice a9 c.length c9):=by
       simp only[World.cell?,World.alloc_heap_new];rfl
      have HU:=Hd ((own_baseC hu hb.size).alloc (.cells #[.slice a9 c.length c9] 42));have HB4:=Hd ((below_then hb hb4).alloc (below_then hb hb4).size (.cells #[.slice a9 c.length c9] 42));have HSZ:=Hd (show w.heap.size≤w4.heap.size from Nat.le_trans hb.size hb4.size);have HL:=Hd (cutS_length l k);have HO2:=Hd ho2;have HO3:=Hd ho3;clear ho2 ho3 hu hown hb4 hrow
      go_wp2_with (at_builtin;refine wpList_append_one rfl _ _ 265 rfl w.heap.size 42 i0 _ 24 Tryz.underlying265 hi hz0 hz1 hz2 rfl _ k vs rfl ho1 w4.heap.size rfl (.slice a9 c.length c9) hcl rfl (by unfold maxLen;omega) (by omega) (by have:=HSZ.out;simp;omega) ?_)
      intro v2 w5 hown2 hg;have HSN:=Hd (OwnBss.snoc ho1 HL.out.symm HO2.out HO3.out HU.out hg hown2);have HB:=Hd (HB4.out.grown hg (by have:=HSZ.out;simp;omega) (own_ge ho1));clear hg hown2 ho1
      go_wp2
      go_roundw
      case rel=>exact⟨k+1,by omega,by go_num,by rw[HES.out],HOK.out,by rw[hcut.out];exact HSN.out,HB.out⟩
      case measure=>simp[intOf];omega
     ·have hres:(okSC l m && (fits (kindS l) (cutS l m) && pageOf (kindS l) (cutS l m) == l))=false:=by
       rw[okS_mono l (m:=k+1) (by rw[hok1];simpa using hle) hlt,Bool.false_and]
      have HR:=Hd hres;clear hres hok1 hes hok hown hend;generalize slotS l k=q at *;generalize endS l k=e at *;have hle2:(e:Int)<(q:Int):=by omega
      go_wp2_with fail
      go_ret3
      rw[UnpOk,HR.out];exact⟨_,rfl,OwnBss.nil _ _,hb⟩
    ·obtain rfl:k=m:=by omega
     obtain⟨ao,co,rfl,hbss⟩:=hown.bss;have hcl:=cutS_lens l k hll.out hok;have hcn:=cutS_length l k;rw[hcn] at hbss;have hpk:=pack_any (kindS l) ao k co (cutS l k) wr hbss (HH.out.below (Nat.le_refl _) hb) (by have:=HM.out;omega);rw[hcn] at hown;have hout:=Hd hown;rw[hcn];have hbase:=hb.size;have hrow:=H.out.below (Nat.le_refl _) hb;have HOKK:=Hd hok
     try (have hge:numS l≤k:=by have:=HM.out;omega)
     try (have hge2:122≤k:=by have:=HM.out;omega)
     clear hcl hcn hok hown hbss
     by_cases hf:fits (kindS l) (cutS l k)=true
     ·have hpv:packV (kindS l) (cutS l k)=pageOf (kindS l) (cutS l k):=by rw[packV,if_pos hf]
      have hpe:packE (kindS l) (cutS l k)=0:=by rw[packE,if_pos hf]
      rw[hpv,hpe] at hpk;have HF:=Hd hf;clear hpv hpe hf;go_wp2_with fail;refine hpk.mono ?_;rintro e w5 ⟨v5,rfl,hown5,hb5⟩;obtain⟨a5,c5,rfl,hbs5⟩:=Bs.of_own hown5;have hB5:=below_then hb hb5;have HOUT5:=Hd (hout.out.below (Nat.le_refl _) hb5);go_wp2_with fail;refine(equal_any a5 _ c5 (pageOf (kindS l) (cutS l k)) (some ⟨b,off,none⟩) 128 cap l w5 hbs5 (hrow.below (Nat.le_refl _) hb5)).mono ?_;rintro e w6 ⟨rfl,rfl⟩;have HR:=Hd (show(okSC l k && (fits (kindS l) (cutS l k) && pageOf (kindS l) (cutS l k) == l))=(pageOf (kindS l) (cutS l k) == l) by rw[HOKK.out,HF.out,Bool.true_and,Bool.true_and]);cases hq:(pageOf (kindS l) (cutS l k) == l)
      ·have HQ:=Hd hq
       clear hq hpk hrow hb hown5 hbs5 hb5;go_wp2_with fail
       go_ret3
       rw[UnpOk,HR.out,HQ.out];exact⟨_,rfl,OwnBss.nil _ _,hB5⟩
      ·have HQ:=Hd hq
       clear hq hpk hrow hb hown5 hbs5 hb5;go_wp2_with fail
       go_ret3
       rw[UnpOk,HR.out,HQ.out];exact⟨_,rfl,HOUT5.out,hB5⟩
     ·have hpe:packE (kindS l) (cutS l k)=1:=by rw[packE,if_neg hf]
      have hpv:packV (kindS l) (cutS l k)=[]:=by rw[packV,if_neg hf]
      have HR:=Hd (show(okSC l k && (fits (kindS l) (cutS l k) && pageOf (kindS l) (cutS l k) == l))=false by rw[Bool.eq_false_iff.2 hf,Bool.false_and,Bool.and_false]);rw[hpv,hpe] at hpk;clear hpv hpe hf;go_wp2_with fail;refine hpk.mono ?_;rintro e w5 ⟨v5,rfl,hown5,hb5⟩;have hB5:=below_then hb hb5;clear hpk hrow hb hown5 hb5;go_wp2_with fail
      go_ret3
      rw[UnpOk,HR.out];exact⟨_,rfl,OwnBss.nil _ _,hB5⟩):p:=h
theorem q6d6366 (h:p:=by
 have hn:=num_four s wr.drew (by omega);have HP:=Hd (show Page wr.drew w.heap.size (rawOf kind k l) from hp);have HBB:=Hd (show Below w.heap.size w wr.drew from hb.drew);have HLT:=Hd (show w.heap.size<wr.drew.heap.size from(Array.getElem?_eq_some_iff.1 hp).1);clear hx hs4' hrow4 hh HW hp hb;generalize 128-lens l=e at *;go_wp2_with fail
 go_region_with (first|(go_at_call 69;refine hc.mono ?_;rintro e w2 ⟨rfl,rfl⟩)|(go_at_call 64;refine hn.mono ?_;rintro e w3 ⟨a5,cap5,rfl,hbs5,hb3⟩;have hp3:Page w3 w.heap.size (rawOf kind k l):=(hb3.block _ HLT.out).trans HP.out;obtain⟨w4,hcp,hpg4,hB4⟩:=copy_sum hp3 hl hbs5 (by omega) (by omega)))
 all_goals
  have hB:=hB4 _ _ (below_then HBB.out hb3) (Nat.le_refl _);rw[HPG.out] at hpg4;have hrow:=hpg4.row HPL.out;have hz:=hB.size;go_wp2_with fail;refine(bclone_any (some ⟨w.heap.size,0,none⟩) 128 128 (pageOf kind l) w4 hrow (by omega)).mono ?_;rintro e w5 ⟨v,rfl,hown,hb5⟩;rw[HPL.out] at hown;have hown:=own_baseC hown hz
  go_wp2
  go_ret2
  exact⟨v,rfl,hown,below_then hB hb5⟩):p:=h
theorem qdb7c57 (h:p:=by
 have hn:=refNum_ok s 4 w.drew (by omega) (by omega) (by omega);have hst:=strOf_toList;clear hl hs;go_enter Tryz.func146,Tryz.ntmps146;go_wp2_with fail
 go_region_with (first|(go_at_call 70;refine hc.mono ?_;rintro e w1 ⟨rfl,rfl⟩)|(go_at_call 67;refine hn.mono ?_;rintro e w2 ⟨rfl,hb2⟩))
 all_goals
  have hB:=((Below.refl w.heap.size w).drew).trans hb2
  go_wp2
  go_ret3
  exact⟨_,rfl,World.ownsRow_nil _ _ _ _,hB⟩):p:=h
theorem qbd642f (h:p:=by
 have hn:=refNum_ok s 4 w.drew (by omega) (by omega) (by omega);have hst:=strOf_toList;have HL:=Hd hl;have h5:=strOf_get l 5 (by rw[HL.out];omega);have h4:=strOf_get l 4 (by rw[HL.out];omega);change _=kindS l at h4;have hn5:(l[5]?.getD 0).toNat=numS l:=rfl;have hn256:numS l<256:=(l[5]?.getD 0).toNat_lt;have hn0:IntKind.i64.wrap ((numS l:Nat):Int)=((numS l:Nat):Int):=IntWalk.i64_in _ (by omega);have HCUT:=Hd (show ∀k,(strOf l).extract (slotS l k) (endS l k)=strOf (cellS l k) from fun k=>strOf_extract _ _ _);have HGET:=Hd (show ∀k (h:k<122),(strOf l)[6+k]'(by rw[strOf_size,HL.out];omega)=l[6+k]?.getD 0 from fun k h=>strOf_get l (6+k) (by rw[HL.out];omega));obtain⟨i0,hi,hz0,hz1,hz2⟩:=info_parts info_str;clear hl hs;go_enter Tryz.func146,Tryz.ntmps146;go_wp2_with fail
 go_region_with (first|(go_at_call 70;refine hc.mono ?_;rintro e w1 ⟨rfl,rfl⟩)|(go_at_call 67;refine hn.mono ?_;rintro e w2 ⟨rfl,hb2⟩))
 all_goals
  have hB:=((Below.refl w.heap.size w).drew).trans hb2;clear hc hn hb2 hx1 hx2 hbe;go_wp2_with fail;clear hn0
  go_loopw [6,7,8] (fun e v i wr=>∃k:Nat,k≤numS l∧k≤122∧i=.int .i64 k∧e=.int .i64 ((endS l k:Nat):Int)∧okSC l k=true∧wr.ownsRow w.heap.size 9 1 v k ((cutS l k).map sv)∧Below w.heap.size w wr) (fun _ _ i _=>numS l-(intOf i).toNat)
  case atStart=>exact⟨0,Nat.zero_le _,by omega,rfl,rfl,rfl,World.ownsRow_nil _ _ _ _,hB⟩
  case round=>
   obtain⟨k,hk,hk2,rfl,rfl,hok,hown,hb⟩:=hrel
   by_cases hlt:k<numS l
   ·by_cases hlt2:k<122
    ·have hget:=HGET.out k hlt2
     have hq:slotS l k=(l[6+k]?.getD 0).toNat:=rfl;have hend:=okS_end l k hok;have hsl:=slotS_lt l k;have hes:endS l (k+1)=slotS l k:=rfl;have hok1:=okS_succ l k;rw[hok,Bool.true_and] at hok1
     by_cases hle:slotS l k≤endS l k
     ·have hcc:=HCUT.out k
      have hcut:=Hd (cutS_succ l k);have HES:=Hd hes;have HOK:Hid (okSC l (k+1)=true):=Hd (by rw[hok1];simpa using hle);clear hes hok1 hok;generalize slotS l k=q at *;generalize endS l k=e at *;generalize cellS l k=c at *;have hle2:¬(e:Int)<(q:Int):=by omega
      have hqq:(l[6+k]?.getD 0).toNat=q:=hq.symm;clear hq;generalize l[6+k]?.getD 0=by1 at *;have hown1:=hown.alloc (.cells #[.string (strOf c)] 9);have hcl:(wr.alloc (.cells #[.string (strOf c)] 9)).cell? ⟨wr.heap.size,0,none⟩=some (sv c):=by
       simp only[World.cell?,World.alloc_heap_new];rfl
      have HSZ:=Hd hb.size;have hB1:=Hd (hb.alloc hb.size (.cells #[.string (strOf c)] 9));have HG:=Hd (own_ge hown);have hwq:IntKind.i64.wrap (q:Int)=(q:Int):=IntWalk.i64_in _ (by omega);clear hown hb
      go_wp2_with (at_builtin;refine wpList_append_one rfl _ _ 46 rfl w.heap.size 9 i0 _ 16 Tryz.underlying46 hi hz0 hz1 hz2 rfl _ k _ rfl hown1 wr.heap.size rfl (sv c) hcl rfl (by unfold maxLen;omega) (by omega) (by have:=HSZ.out;simp;omega) ?_)
      intro v2 w5 hown2 hg;have HB:=Hd (hB1.out.grown hg (by have:=HSZ.out;simp;omega) (fun j e=>HG.out j e));clear hg
      go_wp2
      go_roundw
      case rel=>exact⟨k+1,by omega,by omega,by go_num,by rw[HES.out],HOK.out,by rw[hcut.out,List.map_append];exact hown2,HB.out⟩
      case measure=>simp[intOf];omega
     ·have hq':(l[6+k]?.getD 0).toNat=slotS l k:=rfl
      have HR:=Hd (unpB_slot l k (by rw[hok1];simpa using hle) (by omega));clear hes hok1 hok hown hend hq;generalize slotS l k=q at *;generalize endS l k=e at *;generalize l[6+k]?.getD 0=by1 at *;have hle2:(e:Int)<(q:Int):=by omega
      have hwq:IntKind.i64.wrap (q:Int)=(q:Int):=IntWalk.i64_in _ (by omega);go_wp2_with fail
      go_ret3
      rw[RUnpOk,HR.out];exact⟨_,rfl,World.ownsRow_nil _ _ _ _,hb⟩
    ·have HR:=Hd (unpB_big l (by omega))
     obtain rfl:k=122:=by omega
     go_wp2_with fail
     go_ret3
     rw[RUnpOk,HR.out];exact⟨_,rfl,World.ownsRow_nil _ _ _ _,hb⟩
   ·obtain rfl:k=numS l:=by omega
    have HMIN:=Hd (show min (numS l) 122=numS l from Nat.min_eq_left hk2);have hcl:=cutS_lens l (numS l) HL.out hok;have hcn:=cutS_length l (numS l);have hgen:=hown;obtain⟨ao,co,rfl,hss⟩:=Strs.of_own hown;have hpk:=rpack_any (kindS l) ao (numS l) co (cutS l (numS l)) wr hss (by omega);have hout:=Hd (show wr.ownsRow w.heap.size 9 1 (.slice ao (numS l) co) (cutS l (numS l)).length ((cutS l (numS l)).map sv) by rw[hcn];exact hgen);have HOKK:=Hd hok;clear hcl hcn hok hown hgen hss
    by_cases hf:fits (kindS l) (cutS l (numS l))=true
    ·have hpv:packV (kindS l) (cutS l (numS l))=pageOf (kindS l) (cutS l (numS l)):=by rw[packV,if_pos hf]
     have hpe:packE (kindS l) (cutS l (numS l))=0:=by rw[packE,if_pos hf]
     rw[hpv,hpe] at hpk;have HR:=Hd (show unpB l=(pageOf (kindS l) (cutS l (numS l)) == l) by rw[unpB,HMIN.out,HOKK.out,hf,Bool.true_and,Bool.true_and]);clear hpv hpe hf;go_wp2_with fail;refine hpk.mono ?_;rintro e w5 ⟨rfl,hb5⟩;have hB5:=below_then hb hb5;have HOUT5:=Hd (own_below hout.out (Nat.le_refl _) hb5);cases hq:(pageOf (kindS l) (cutS l (numS l)) == l)
     ·have hq2:(pageOf (kindS l) (cutS l (numS l)) != l)=true:=by rw[bne,hq];rfl
      have HQ:=Hd (HR.out.trans hq);clear hpk hb hb5 HR;generalize pageOf (kindS l) (cutS l (numS l))=pg at *;go_wp2_with fail
      go_ret3
      rw[RUnpOk,HQ.out];exact⟨_,rfl,World.ownsRow_nil _ _ _ _,hB5⟩
     ·have hq2:(pageOf (kindS l) (cutS l (numS l)) != l)=false:=by rw[bne,hq];rfl
      have HQ:=Hd (HR.out.trans hq);clear hpk hb hb5 HR;generalize pageOf (kindS l) (cutS l (numS l))=pg at *;go_wp2_with fail
      go_ret3
      rw[RUnpOk,HQ.out,HMIN.out];exact⟨_,rfl,HOUT5.out,hB5⟩
    ·have hpe:packE (kindS l) (cutS l (numS l))=1:=by rw[packE,if_neg hf]
     have hpv:packV (kindS l) (cutS l (numS l))=[]:=by rw[packV,if_neg hf]
     have HR:=Hd (show unpB l=false by rw[unpB,HMIN.out,Bool.eq_false_iff.2 hf,Bool.false_and,Bool.and_false]);rw[hpv,hpe] at hpk;clear hpv hpe hf;go_wp2_with fail;refine hpk.mono ?_;rintro e w5 ⟨rfl,hb5⟩;have hB5:=below_then hb hb5;clear hpk hb hb5;go_wp2_with fail
     go_ret3
     rw[RUnpOk,HR.out];exact⟨_,rfl,World.ownsRow_nil _ _ _ _,hB5⟩):p:=h
theorem qc46daa (h:p:=by
 have hw64:(s:Int) % 18446744073709551616=(s:Int):=by omega
 have hw64':IntKind.u64.wrap (s:Int)=(s:Int):=by simp[IntKind.wrap,IntKind.signed,IntKind.bits];omega
 first|(have:=m5f1c5e;exact q5f1c5e)|(have:=mc032cd;exact qc032cd)|(have:=m6d6366;exact q6d6366)|(have:=mdb7c57;exact qdb7c57)|(have:=mbd642f;exact qbd642f)):p:=h
theorem q99d0db (h:p:=by
 obtain⟨wy,hwy⟩:∃x,x=(w9.setCell ⟨w.heap.size+1+1+1,1,none⟩ (.slice a9 (es.length+1) c9)):=⟨_,rfl⟩
 rw[←hwy] at HQ ⊢;clear hwy f8 f9 f7 hA00 hA1 hA3 hA4 hHeld x0 x1 x2 x3 xn hrun2 o4;go_wp2_with fail
 first|(have:=m7deb1d;exact q7deb1d)|(have:=mbb5ba2;exact qbb5ba2)):p:=h
theorem q164c83 (h:p:=by
 obtain⟨wy,hwy⟩:∃x,x=(w9.setCell ⟨w5.heap.size+1,3,none⟩ (.slice a9 (i+1) c9)):=⟨_,rfl⟩
 rw[←hwy] at HQ ⊢;clear hwy f8 f9 f7 hA00 hA1 hA3 hA4 hHeld x1 x2 x3 x4 hrun2 o3;go_wp2_with fail;go_roundw
 case rel=>exact⟨i+1,_,_,_,s2,Li++[(key,tv)],hlt,by go_num,by simp;exact HLI.out,HSOK2.out,HAF2.out,HQ.out⟩
 case measure=>simp[intOf];omega):p:=h
theorem q3f394d (h:p:=by
 refine bkA hK (fun hHeld=>?_);clear hK K;refine rdy 7 (fun K hK=>?_)
 (refine step_append_run rfl _ _ _ _ rfl rfl rfl hrun2 ?_)
 refine bkA hK (fun hHeld=>?_);clear hK K;refine tks [8] ?_;refine rdy 9 (fun K hK=>?_)
 (rw[if_pos (by rfl)];go_wp2_with (fail))
 refine bkA hK (fun hHeld=>?_);clear hK K;refine wpAnyH_done (by kernel_rfl) ?_ _;refine NoPanic.normal ?_
 first|(have:=m99d0db;exact q99d0db)|(have:=m164c83;exact q164c83)):p:=h
theorem q15d91b (h:p:=by
 have hkb:keyB e.key=false:=by simp[keyB];omega
 have HF:Hid (nodeB true l=false):=Hd (HNS.out (by rw[HST.out];simp[keyOkN,hkb]));exact q0ddb2b):p:=h
theorem q5f5823 (h:p:=by
 rw[hwe];have hk:w.heap.size≤w.heap.size:=Nat.le_refl _;exact(((((Below.refl _ _).setCell hk _).setCell hk _).setCell hk _).setCell hk _).setCell hk _):p:=h
end
def toI (l:List UInt8):List Int:=l.map fun b=>(b.toNat:Int)
theorem toI_length (l:List UInt8):(toI l).length=l.length:=by simp[toI]
theorem toI_take (l:List UInt8) (k:Nat):(toI l).take k=toI (l.take k):=by simp[toI,List.map_take]
theorem toI_drop (l:List UInt8) (k:Nat):(toI l).drop k=toI (l.drop k):=by simp[toI,List.map_drop]
theorem toI_append (l m:List UInt8):toI l++toI m=toI (l++m):=by simp[toI]
theorem toI_get (l:List UInt8) (k:Nat):(toI l)[k]?.getD 0=((l[k]?.getD 0).toNat:Int):=by
 simp only[toI,List.getElem?_map];cases l[k]? <;> simp
def ofI (l:List Int):List UInt8:=l.map fun n=>UInt8.ofNat n.toNat
theorem toI_ofI (l:List Int) (h:∀n∈l,(Lit.int .u8 n).wf=true):toI (ofI l)=l:=by
 induction l with
 | nil=>rfl
 | cons x l ih=>
  have h1:=h x (by simp);have h2:=ih (fun n hn=>h n (by simp[hn]));simp[Lit.wf,IntKind.min,IntKind.max,IntKind.signed,IntKind.bits] at h1;simp only[toI,ofI,List.map_cons] at h2 ⊢;rw[h2]
  congr 1
  simp[UInt8.toNat_ofNat'];omega
def Bs (w:World) (a:Option Addr) (len cap:Nat) (l:List UInt8):Prop:=Row .u8 w a len cap (toI l)
theorem Bs.below {w w':World} {a:Option Addr} {len cap:Nat} {l:List UInt8} {B:Nat} (hB:w.heap.size≤B) (hb:Below B w w') (h:Bs w a len cap l):Bs w' a len cap l:=Row.below hB hb h
theorem Bs.drewN {w:World} {a:Option Addr} {len cap:Nat} {l:List UInt8} (h:Bs w a len cap l) (n:Nat):Bs (w.drewN n) a len cap l:=h
theorem Bs.take {w:World} {a:Option Addr} {len cap:Nat} {l:List UInt8} (j:Nat) (hj:j≤len) (h:Bs w a len cap l):Bs w a j cap (l.take j):=by
 have:=Row.take j hj h;rwa [toI_take] at this
theorem Bs.drop {w:World} {a:Option Addr} {len cap:Nat} {l:List UInt8} (j:Nat) (hj:j≤len) (h:Bs w a len cap l):Bs w (if cap=j then a else a.map (·.add (j*1))) (len-j) (cap-j) (l.drop j):=by
 have:=Row.drop j hj h;rwa [toI_drop] at this
theorem Bs.len {w:World} {a:Option Addr} {len cap:Nat} {l:List UInt8} (h:Bs w a len cap l):l.length=len:=by have:=h.1;rwa [toI_length] at this
theorem Bs.cap {w:World} {a:Option Addr} {len cap:Nat} {l:List UInt8} (h:Bs w a len cap l):len≤cap∧cap≤maxLen:=⟨h.2.1,h.2.2.1⟩
theorem Bs.cell {w:World} {a:Option Addr} {len cap:Nat} {l:List UInt8} (h:Bs w a len cap l) {k:Nat} (hk:k<len) :
 ∃b off,a=some ⟨b,off,none⟩∧b<w.heap.size∧∀i,i<len→w.cell? ⟨b,off+i,none⟩=some (.int .u8 ((l[i]?.getD 0).toNat:Int)):=by
 rcases h.2.2.2.2 with h0|⟨b,off,e,hb,hc⟩
 ·omega
 ·exact⟨b,off,e,hb,fun i hi=>by rw[hc i hi,toI_get]⟩
theorem Bs.of_own {w:World} {base:Nat} {e:TypeId} {v:Value} {n:Nat} {l:List UInt8} (h:w.ownsRow base e 1 v n ((toI l).map (Value.int .u8))) :
 ∃a cap,v=.slice a n cap∧Bs w a n cap l:=Row.of_own h
theorem Row.grown {k:IntKind} {w w':World} {a:Option Addr} {len cap:Nat} {l:List Int} {row:Option Nat} (hg:w.grownBy w' row) (hne:∀b off,len≠0→a=some ⟨b,off,none⟩→row≠some b) (h:Row k w a len cap l):Row k w' a len cap l:=by
 obtain⟨h1,h2,h3,hn,h4⟩:=h;refine⟨h1,h2,h3,hn,?_⟩
 rcases h4 with h4|⟨b,off,h5,h6,h7⟩
 ·exact .inl h4
 ·by_cases h0:len=0
  ·exact .inl h0
  ·refine .inr ⟨b,off,h5,by have:=hg.size;omega,fun i hi=>?_⟩
   rw[←h7 i hi];exact World.cell?_of_block (hg.block b h6 (fun e=>hne b off h0 h5 e.symm))
theorem Bs.grown {w w':World} {a:Option Addr} {len cap:Nat} {l:List UInt8} {row:Option Nat} (hg:w.grownBy w' row) (hne:∀b off,len≠0→a=some ⟨b,off,none⟩→row≠some b) (h:Bs w a len cap l):Bs w' a len cap l:=Row.grown hg hne h
def strOf (l:List UInt8):ByteArray:=⟨l.toArray⟩
theorem strOf_list (l:List UInt8):(strOf l).data.toList=l:=by simp[strOf]
theorem strOf_size (l:List UInt8):(strOf l).size=l.length:=by simp[strOf,ByteArray.size]
theorem strOf_extract (l:List UInt8) (i j:Nat):(strOf l).extract i j=strOf ((l.drop i).take (j-i)):=by
 apply ByteArray.ext;simp[strOf,ByteArray.data_extract,List.extract_eq_take_drop]
theorem strOf_append (l m:List UInt8):strOf l++strOf m=strOf (l++m):=by
 apply ByteArray.ext;simp[strOf,ByteArray.data_append]
theorem strOf_toList (l:List UInt8):(strOf l).toList=l:=by
 have h:=ByteArray.toList_loop_eq (strOf l) (strOf l).size 0 [] (by omega) (by omega);show ByteArray.toList.loop (strOf l) 0 []=l;rw[h,strOf_list];simp
theorem strOf_get (l:List UInt8) (k:Nat) (h:k<l.length):(strOf l)[k]'(by rw[strOf_size];exact h)=l[k]?.getD 0:=by
 simp[strOf,ByteArray.getElem_eq_getElem_data,h]
theorem conv_string {P:Program} {w:World} {src e dst:TypeId} (hs:P.underlying src=some (.slice e)) (he:P.underlying e=some (.int .u8)) (hd:P.underlying dst=some .string)
 {a:Option Addr} {len cap:Nat} {l:List UInt8} (h:Bs w a len cap l):(convert src dst (.slice a len cap)).run P w=.ok (.string (strOf l)) w:=by
 have hlen:=h.len;cases a with
 | none=>
  have hc:=h.2.2.2.1 rfl;have:len=0:=by have:=h.2.1;omega
  subst hc this;obtain rfl:l=[]:=List.eq_nil_of_length_eq_zero hlen;exact Lib.run_convert_nil_bytes w src dst e 0 hs he hd
 | some x=>
  subst hlen;refine run_convert_bytes_back w src dst e x cap l hs he hd fun j hj=>?_
  obtain⟨b,off,h5,_,h7⟩:=h.cell hj;cases h5;have e:(⟨b,off,none⟩:Addr).add j=⟨b,off+j,none⟩:=by unfold Addr.add;split<;>simp_all
  rw[e,h7 j hj];simp[hj]
theorem made_list (v:Value) (n:Nat):(madeCells #[v] n).toList=List.replicate n v:=by
 simp only[madeCells];apply List.ext_getElem
 ·simp
 ·intro i h1 h2
  simp[Nat.mod_one]
theorem strCells_strOf (l:List UInt8):Lib.strCells (strOf l)=(toI l).map (Value.int .u8):=by
 simp[Lib.strCells,strOf,toI]
def RetStr (w:World) (l:List UInt8) (e:Ending) (w':World):Prop:=e=.returned (.string (strOf l))∧Below w.heap.size w w'
theorem conv_one {P:Program} {W:World} {src e dst t:TypeId} (hs:P.underlying src=some (.slice e)) (he:P.underlying e=some (.int .u8)) (hd:P.underlying dst=some .string) (b:UInt8) :
 (convert src dst (.slice (some ⟨W.heap.size,0,none⟩) 1 1)).run P (W.alloc (.cells #[.int .u8 (b.toNat:Int)] t))=.ok (.string (strOf [b])) (W.alloc (.cells #[.int .u8 (b.toNat:Int)] t)):=
 conv_string hs he hd (show Bs _ _ _ _ [b] from Row.made .u8 W t [(b.toNat:Int)] rfl (by unfold maxLen;simp))
def OwnBytes (t:TypeId) (w:World) (l:List UInt8) (e:Ending) (w':World):Prop:=
 ∃v,e=.returned v∧w'.ownsRow w.heap.size t 1 v l.length ((toI l).map (Value.int .u8))∧Below w.heap.size w w'
theorem grown_setCell (w:World) (a:Addr) (u:Value):w.grownBy (w.setCell a u) (some a.block):=
 ⟨rfl,rfl,rfl,by simp[World.setCell],fun k _ hne=>Below.heap_setCell w a u k (fun e=>hne (by rw[e]))⟩
theorem grown_trans {a b c:World} {row:Option Nat} (h:a.grownBy b row) (k:b.grownBy c row):a.grownBy c row:=
 ⟨by rw[k.os,h.os],by rw[k.tape,h.tape],by rw[k.output,h.output],Nat.le_trans h.size k.size,fun i hi hne=>by rw[k.block i (Nat.lt_of_lt_of_le hi h.size) hne,h.block i hi hne]⟩
theorem grown_below {a b:World} (h:Below a.heap.size a b) (row:Option Nat):a.grownBy b row:=⟨h.os,h.tape,h.output,h.size,fun k hk _=>h.block k hk⟩
theorem heap_setCell_at {w:World} {g:Nat} {cur:Array Value} {e:TypeId} (j:Nat) (u:Value) (hg:w.heap[g]? = some (.cells cur e (0,0))) :
 (w.setCell ⟨g,j,none⟩ u).heap[g]? = some (.cells (cur.setIfInBounds j u) e (0,0)):=heap_setCell_same w g j cur e u hg
theorem or256 (x c:Nat) (hx:x<72057594037927936) (hc:c<256):bits .or .u64 ((x:Int)*256) (c:Int)=((x*256+c:Nat):Int):=by
 have h:=u64_or_nat (x*256) c (by omega) (by omega);have e:x*256 ||| c=x*256+c:=by
  have:=Nat.shiftLeft_add_eq_or_of_lt (i:=8) (b:=c) (by omega) x;rw[Nat.shiftLeft_eq] at this;exact this.symm
 rw[e] at h;rw[←h];congr 1
theorem own_lt {w:World} {base:Nat} {e:TypeId} {size:Nat} {v:Value} {n:Nat} {xs:List Value} (h:w.ownsRow base e size v n xs):∀k,v.ownBlock=some k→k<w.heap.size:=by
 intro k hk
 rcases h.2 with⟨rfl,rfl⟩|⟨g,cap,cur,rfl,_,hg,_⟩
 ·cases hk
 ·cases hk;exact(Array.getElem?_eq_some_iff.1 hg).1
theorem grown_refl (w:World) (row:Option Nat):w.grownBy w row:=⟨rfl,rfl,rfl,Nat.le_refl _,fun _ _ _=>rfl⟩
theorem Bs.own {w:World} {base:Nat} {e:TypeId} {a:Option Addr} {n cap:Nat} {l:List UInt8} (h:w.ownsRow base e 1 (.slice a n cap) n ((toI l).map (Value.int .u8))):Bs w a n cap l:=by
 obtain⟨a',cap',e1,e2⟩:=Bs.of_own h;cases e1;exact e2
theorem own_slice {w:World} {base:Nat} {e:TypeId} {size:Nat} {v:Value} {n:Nat} {xs:List Value} (h:w.ownsRow base e size v n xs):∃a cap,v=.slice a n cap∧n≤cap∧cap≤maxLen∧(0<n→∃g,a=some ⟨g,0,none⟩):=by
 rcases h.2 with⟨rfl,rfl⟩|⟨g,cap,cur,rfl,_,_,h1,h2,_⟩
 ·exact⟨none,0,rfl,Nat.le_refl _,by unfold maxLen;omega,fun h=>by omega⟩
 ·exact⟨_,cap,rfl,h1,h2,fun _=>⟨g,rfl⟩⟩
def beBytes (x:Nat):Nat→List UInt8
 | 0=>[]
 | n+1=>beBytes (x / 256) n++[UInt8.ofNat x]
theorem beBytes_length (x n:Nat):(beBytes x n).length=n:=by
 induction n generalizing x with
 | zero=>rfl
 | succ n ih=>simp[beBytes,ih]
def beVal (l:List UInt8):Nat:=l.foldl (fun x b=>x*256+b.toNat) 0
theorem beVal_nil:beVal []=0:=rfl
theorem beVal_snoc (l:List UInt8) (b:UInt8):beVal (l++[b])=beVal l*256+b.toNat:=by simp[beVal]
theorem beVal_lt (l:List UInt8):beVal l<256 ^ l.length:=by
 have key:∀(l:List UInt8) (a:Nat),l.foldl (fun x b=>x*256+b.toNat) a<(a+1)*256 ^ l.length:=by
  intro l
  induction l with
  | nil=>intro a;simp
  | cons b l ih=>
   intro a;have h:=ih (a*256+b.toNat);have hb:=b.toNat_lt;simp only[List.foldl_cons,List.length_cons,Nat.pow_succ]
   calc _<(a*256+b.toNat+1)*256 ^ l.length:=h
    _≤((a+1)*256)*256 ^ l.length:=Nat.mul_le_mul_right _ (by omega)
    _=(a+1)*(256 ^ l.length*256):=by rw[Nat.mul_assoc,Nat.mul_comm 256]
 have h:=key l 0;simp at h;exact h
theorem beBytes_cons (x n:Nat):beBytes x (n+1)=UInt8.ofNat (x / 256 ^ n)::beBytes x n:=by
 induction n generalizing x with
 | zero=>simp[beBytes]
 | succ n ih=>
  rw[beBytes,ih (x / 256)];simp only[List.cons_append];rw[Nat.div_div_eq_div_mul,Nat.pow_succ,Nat.mul_comm 256]
  rfl
theorem be_set (x n k:Nat) (hk:k<n):(List.replicate (n-k) 0++beBytes x k).set (n-1-k) (UInt8.ofNat (x / 256 ^ k))=List.replicate (n-(k+1)) 0++beBytes x (k+1):=by
 obtain⟨m,rfl⟩:∃m,n=k+1+m:=⟨n-k-1,by omega⟩
 have e1:k+1+m-k=m+1:=by omega
 have e2:k+1+m-1-k=m:=by omega
 have e3:k+1+m-(k+1)=m:=by omega
 rw[e1,e2,e3,beBytes_cons,List.replicate_succ',List.append_assoc,List.set_append_right _ _ (by simp),List.length_replicate,Nat.sub_self]
 rfl
theorem be_at (x n k:Nat) (hk:k<n):(List.replicate (n-k) (0:UInt8)++beBytes x k)[n-1-k]? = some 0:=by
 rw[List.getElem?_append_left (by simp;omega),List.getElem?_replicate,if_pos (by omega)]
theorem be_byte (x k:Nat):((x:Int) / 2 ^ (8*k) % 256)=((UInt8.ofNat (x / 256 ^ k)).toNat:Int):=by
 have e:(256:Nat) ^ k=2 ^ (8*k):=by rw[Nat.pow_mul]
 rw[UInt8.toNat_ofNat',e,Int.natCast_emod,Int.natCast_ediv,Int.natCast_pow]
 rfl
def numF (x:Int) (size:Int):List UInt8:=if size<1∨8<size then [] else beBytes x.toNat size.toNat
def textF (l:List UInt8):List UInt8:=UInt8.ofNat (l.take 255).length::l.take 255
structure TSt where
 l:List UInt8
 e:Int
deriving DecidableEq
def takeF (s:TSt) (n:Nat):List UInt8×TSt:=
 if s.e≠0 then ([],s) else if s.l.length<n then ([],{ s with e:=10 }) else (s.l.take n,{ s with l:=s.l.drop n })
def tNum (s:TSt) (size:Int):Nat×TSt:=
 if s.e=0∧(size<1∨8<size) then (0,{ s with e:=1 }) else (beVal (takeF s size.toNat).1,(takeF s size.toNat).2)
def tText (s:TSt):List UInt8×TSt:=takeF (tNum s 1).2 (tNum s 1).1
def tRest (s:TSt):List UInt8×TSt:=takeF s s.l.length
def tDone (s:TSt):Int:=if s.e≠0∨s.l.length=0 then s.e else 11
open Go.RowKit
theorem info_u8:(Tryz.prog.info? 5).map (fun i=>(i.zero,i.size,i.bytes))=some (some (.int .u8 0),1,1):=by kernel_rfl
theorem num_bad (x size:Int) (w:World) (h:size<1∨8<size) :
 Calls Tryz.prog 64 #[.int .u64 x,.int .i64 size] w fun e w'=>e=.returned (.slice none 0 0)∧w=w':=by
 rcases h with h|h
 ·go_enter Tryz.func64,Tryz.ntmps64
  exact q72c811
 ·have h':¬size<1:=by omega
  go_enter Tryz.func64,Tryz.ntmps64;exact q72c811
theorem num_ok (x:Nat) (n:Nat) (w:World) (_hx:x<18446744073709551616) (h1:1≤n) (h8:n≤8) :
 Calls Tryz.prog 64 #[.int .u64 x,.int .i64 n] w (OwnBytes 5 w (beBytes x n)):=by
 obtain⟨i0,hi,hz0,hz1,hz2⟩:=info_parts info_u8;go_enter Tryz.func64,Tryz.ntmps64
 go_wp2_with (at_make;refine wpList_make_full _ rfl _ _ 42 rfl w.heap.size 5 i0 _ 1 Tryz.underlying42 hi hz0 hz1 .i64 .i64 _ _ n rfl rfl rfl rfl (by rw[hz2];omega) (by unfold maxLen;omega) (Nat.le_refl _) ?_)
 intro w1 hown hg;have hB:=(Below.refl w.heap.size w).grown hg (Nat.le_refl _) (fun k e=>by cases e);clear hg;have hown':w1.ownsRow w.heap.size 5 1 (.slice (some ⟨w.heap.size,0,none⟩) n n) n ((toI (List.replicate (n-0) 0++beBytes x 0)).map (Value.int .u8)):=by
  simp only[made_list] at hown;simpa[beBytes,toI] using hown
 clear hown
 go_wp2
 go_loopw [17] (fun i wr=>∃k:Nat,k≤n∧i=.int .i64 k∧wr.ownsRow w.heap.size 5 1 (.slice (some ⟨w.heap.size,0,none⟩) n n) n ((toI (List.replicate (n-k) 0++beBytes x k)).map (Value.int .u8))∧Below w.heap.size w wr) (fun i _=>n-(intOf i).toNat)
 case atStart=>exact⟨0,Nat.zero_le _,rfl,hown',hB⟩
 case round=>
  obtain⟨k,hk,rfl,hr,hb⟩:=hrel
  by_cases hlt:k<n
  ·have hc:=hr.cellAt (n-1-k) (by omega)
   have hf:=hr.frozenAt (n-1-k);have hst:=hr.stored (n-1-k) (.int .u8 ((x:Int) / 2 ^ (8*k) % 256));have hv:=congrArg (Value.int .u8) (be_byte x k);have hlist:((toI (List.replicate (n-k) 0++beBytes x k)).map (Value.int .u8)).set (n-1-k) (.int .u8 ((x:Int) / 2 ^ (8*k) % 256))=(toI (List.replicate (n-(k+1)) 0++beBytes x (k+1))).map (Value.int .u8):=by
    rw[hv,←be_set x n k hlt];simp only[toI,List.map_set]
   rw[hlist] at hst;have hst:=hst.1;clear hlist hv;rw[List.getElem?_map,toI,List.getElem?_map,be_at x n k hlt] at hc;have hc':wr.cell? ⟨w.heap.size,n-1-k,none⟩=some (.int .u8 0):=hc;clear hc;have HS:=Hd hst;clear hst
   go_wp2
   go_roundw
   case rel=>exact⟨k+1,by omega,by go_num,HS.out,hb.setCell (Nat.le_refl _) _⟩
   case measure=>simp[intOf];omega
  ·obtain rfl:k=n:=by omega
   have hl:=Hd (beBytes_length x k);have hr':wr.ownsRow w.heap.size 5 1 (.slice (some ⟨w.heap.size,0,none⟩) k k) (beBytes x k).length ((toI (beBytes x k)).map (Value.int .u8)):=by
    rw[hl.out];simpa using hr
   go_wp2
   go_ret;exact⟨_,rfl,hr',hb⟩
theorem num_any (x size:Int) (w:World) (hx:0≤x∧x<18446744073709551616) :
 Calls Tryz.prog 64 #[.int .u64 x,.int .i64 size] w (OwnBytes 5 w (numF x size)):=by
 by_cases h:size<1∨8<size
 ·refine(num_bad x size w h).mono ?_
  rintro e w' ⟨rfl,rfl⟩;rw[numF,if_pos h];exact⟨_,rfl,⟨rfl,.inl ⟨rfl,rfl⟩⟩,Below.refl _ _⟩
 ·rw[numF,if_neg h]
  obtain⟨y,rfl⟩:=Int.eq_ofNat_of_zero_le hx.1;obtain⟨n,rfl⟩:=Int.eq_ofNat_of_zero_le (show 0≤size by omega);exact num_ok y n w (by omega) (by omega) (by omega)
theorem refNum_bad (x size:Int) (w:World) (h:size<1∨8<size) :
 Calls Tryz.prog 67 #[.int .u64 x,.int .i64 size] w fun e w'=>e=.returned (.string (strOf []))∧w=w':=by
 rcases h with h|h
 ·go_enter Tryz.func67,Tryz.ntmps67
  exact q72c811
 ·have h':¬size<1:=by omega
  go_enter Tryz.func67,Tryz.ntmps67;exact q72c811
theorem refNum_ok (x:Nat) (n:Nat) (w:World) (hx:x<18446744073709551616) (h1:1≤n) (h8:n≤8) :
 Calls Tryz.prog 67 #[.int .u64 x,.int .i64 n] w (RetStr w (beBytes x n)):=by
 go_enter Tryz.func67,Tryz.ntmps67
 go_wp2
 go_loopw [0,5,6] (fun xx s i wr=>∃k:Nat,k≤n∧i=.int .i64 k∧xx=.int .u64 ((x / 256 ^ k:Nat):Int)∧s=.string (strOf (beBytes x k))∧Below w.heap.size w wr) (fun _ _ i _=>n-(intOf i).toNat)
 case atStart=>exact⟨0,Nat.zero_le _,rfl,by simp,rfl,Below.refl _ _⟩
 case round=>
  obtain⟨k,hk,rfl,rfl,rfl,hb⟩:=hrel
  by_cases hlt:k<n
  ·have hdiv:=Hd (show x / 256 ^ (k+1)=x / 256 ^ k / 256 by rw[Nat.pow_succ,Nat.div_div_eq_div_mul])
   have hle:x / 256 ^ k≤x:=Nat.div_le_self _ _;have hcons:=Hd (beBytes_cons x k);generalize x / 256 ^ k=y at *;have hby:((y:Int) % 256)=((UInt8.ofNat y).toNat:Int):=by rw[UInt8.toNat_ofNat'];simp
   have hcv:=conv_one (W:=wr) (t:=5) Tryz.underlying42 Tryz.underlying5 Tryz.underlying9 (UInt8.ofNat y);rw[←hby] at hcv;have HB:=Hd hby
   clear hby
   have hap:=strOf_append [UInt8.ofNat y] (beBytes x k);have hsz:(strOf [UInt8.ofNat y]).size+(strOf (beBytes x k)).size≤9223372036854775807:=by
    rw[strOf_size,strOf_size,beBytes_length];simp;omega
   go_wp2
   go_roundw
   case rel=>exact⟨k+1,by omega,by go_num,by rw[hdiv.out];go_num,by rw[hcons.out],hb.alloc hb.size _⟩
   case measure=>simp[intOf];omega
  ·obtain rfl:k=n:=by omega
   go_wp2
   go_ret;exact⟨rfl,hb⟩
theorem refNum_any (x size:Int) (w:World) (hx:0≤x∧x<18446744073709551616) :
 Calls Tryz.prog 67 #[.int .u64 x,.int .i64 size] w (RetStr w (numF x size)):=by
 by_cases h:size<1∨8<size
 ·refine(refNum_bad x size w h).mono ?_
  rintro e w' ⟨rfl,rfl⟩;rw[numF,if_pos h];exact⟨rfl,Below.refl _ _⟩
 ·rw[numF,if_neg h]
  obtain⟨y,rfl⟩:=Int.eq_ofNat_of_zero_le hx.1;obtain⟨n,rfl⟩:=Int.eq_ofNat_of_zero_le (show 0≤size by omega);exact refNum_ok y n w (by omega) (by omega) (by omega)
theorem textF_eq (l:List UInt8):textF l=[UInt8.ofNat (l.take 255).length]++l.take 255:=rfl
theorem numF_one (n:Nat) (_hn:n≤255):numF (n:Int) 1=[UInt8.ofNat n]:=by
 rw[numF,if_neg (by omega)];simp[beBytes]
theorem refText_any (l:List UInt8) (w:World) (hl:l.length≤9223372036854775807) :
 Calls Tryz.prog 68 #[.string (strOf l)] w (RetStr w (textF l)):=by
 have hsz:=strOf_size l;have hx:=strOf_extract l 0 255;rw[List.drop_zero,Nat.sub_zero] at hx;have ht:(l.take 255).length≤255:=by simp;omega
 have hT:=textF_eq l;have hall:l.length≤255→l.take 255=l:=fun h=>List.take_of_length_le h
 generalize l.take 255=t at *;have hN:=Hd (numF_one t.length ht);have HT:=Hd hT;have HALL:=Hd hall;clear hT hall;have hap:=strOf_append [UInt8.ofNat t.length] t;have hlen:=strOf_size t;have hbnd:(strOf [UInt8.ofNat t.length]).size+(strOf t).size≤9223372036854775807:=by
  rw[strOf_size,strOf_size];simp;omega
 by_cases h255:255<l.length
 ·clear HALL
  exact q6e5b4c
 ·obtain rfl:=HALL.out (by omega)
  exact q6e5b4c
theorem text_any (l:List UInt8) (w:World) (hl:l.length≤9223372036854775807) :
 Calls Tryz.prog 65 #[.string (strOf l)] w (OwnBytes 5 w (textF l)):=by
 obtain⟨i0,hi,hz0,hz1,hz2⟩:=info_parts info_u8;have hsz:=strOf_size l;have hx:=strOf_extract l 0 (min l.length 255);have htk:(l.drop 0).take (min l.length 255-0)=l.take 255:=by
  rw[List.drop_zero,Nat.sub_zero]
  by_cases h:l.length≤255
  ·rw[Nat.min_eq_left h,List.take_length,List.take_of_length_le h]
  ·rw[Nat.min_eq_right (by omega)]
 rw[htk] at hx;clear htk;have ht:(l.take 255).length≤255:=by simp;omega
 have HT:=Hd (textF_eq l);generalize l.take 255=t at *;have hlen:=strOf_size t;have hmin:min l.length 255=255∨min l.length 255=l.length:=by omega
 have hcase:(255<l.length∧min l.length 255=255)∨(¬255<l.length∧min l.length 255=l.length):=by omega
 clear hmin
 rcases hcase with⟨h255,e⟩|⟨h255,e⟩
 all_goals
  rw[e] at hx;clear e;go_enter Tryz.func65,Tryz.ntmps65
  go_wp2_with (at_builtin;refine Lib.wpList_append_own_string _ rfl _ _ 42 9 rfl w.heap.size 5 i0 Tryz.underlying42 Tryz.underlying9 hi hz0 hz1 hz2 _ 1 [.int .u8 (t.length:Int)] rfl (own_made .u8 w 5 [(t.length:Int)] rfl (Nat.le_refl _) (by unfold maxLen;simp)) (strOf t) rfl (by rw[hlen];unfold maxLen;omega) (by rw[hlen];omega) (by simp) ?_)
  intro v2 w2 hown hg _;have hB:=((Below.refl w.heap.size w).alloc (Nat.le_refl _) (.cells #[.int .u8 (t.length:Int)] 5)).grown hg (by simp) (fun k e=>by cases e;exact Nat.le_refl _);clear hg;have hown':w2.ownsRow w.heap.size 5 1 v2 (textF l).length ((toI (textF l)).map (Value.int .u8)):=by
   rw[HT.out];have e:((UInt8.ofNat t.length).toNat:Int)=(t.length:Int):=by rw[UInt8.toNat_ofNat'];omega
   have e2:([UInt8.ofNat t.length]++t).length=1+t.length:=by simp;omega
   rw[strCells_strOf] at hown;rw[e2,←toI_append,List.map_append];have e3:toI [UInt8.ofNat t.length]=[(t.length:Int)]:=by simp only[toI,List.map_cons,List.map_nil,e]
   rw[e3];exact hown
  clear hown
  go_wp2
  go_ret;exact⟨_,rfl,hown',hB⟩
def stepB (x:Nat):Nat:=if x % 2=1 then (x / 2) ^^^ 3988292384 else x / 2
def steps:Nat→Nat→Nat
 | 0,x=>x
 | n+1,x=>steps n (stepB x)
theorem steps_add (m n x:Nat):steps (m+n) x=steps n (steps m x):=by
 induction m generalizing x with
 | zero=>simp[steps]
 | succ m ih=>rw[show m+1+n=(m+n)+1 by omega];simp only[steps];exact ih _
theorem steps_succ (n x:Nat):steps (n+1) x=stepB (steps n x):=by
 rw[steps_add n 1];rfl
def stepC (x:Nat) (b:UInt8):Nat:=steps 8 (x ^^^ b.toNat)
def crcX (x:Nat) (l:List UInt8):Nat:=l.foldl stepC x
def crcOn (sum:Nat) (l:List UInt8):Nat:=4294967295-crcX (4294967295-sum) l
def crcOf (l:List UInt8):Nat:=crcOn 0 l
theorem xor_lt {a b:Nat} (ha:a<4294967296) (hb:b<4294967296):a ^^^ b<4294967296:=Nat.xor_lt_two_pow (n:=32) ha hb
theorem stepB_lt {x:Nat} (h:x<4294967296):stepB x<4294967296:=by
 unfold stepB;split
 ·exact xor_lt (by omega) (by omega)
 ·omega
theorem steps_lt (n:Nat) {x:Nat} (h:x<4294967296):steps n x<4294967296:=by
 induction n generalizing x with
 | zero=>exact h
 | succ n ih=>exact ih (stepB_lt h)
theorem stepC_lt {x:Nat} (h:x<4294967296) (b:UInt8):stepC x b<4294967296:=steps_lt 8 (xor_lt h (by have:=b.toNat_lt;omega))
theorem crcX_lt (l:List UInt8) {x:Nat} (h:x<4294967296):crcX x l<4294967296:=by
 induction l generalizing x with
 | nil=>exact h
 | cons b l ih=>exact ih (stepC_lt h b)
theorem crcOn_lt (sum:Nat) (l:List UInt8):crcOn sum l<4294967296:=by unfold crcOn;omega
theorem crcX_snoc (x:Nat) (l:List UInt8) (b:UInt8):crcX x (l++[b])=stepC (crcX x l) b:=by simp[crcX]
def half:List Nat:=[0,498536548,997073096,651767980,1994146192,1802195444,1303535960,1342533948,3988292384,4027552580,3604390888,3412177804,2607071920,2262029012,2685067896,3183342108]
theorem half_eq (k:Nat) (h:k<16):half[k]? = some (steps 4 k):=by
 have:∀k:Fin 16,half[k.val]? = some (steps 4 k.val):=by decide
 exact this ⟨k,h⟩
theorem stepB_xor (a b:Nat) (ha:a % 2=0):stepB (a ^^^ b)=a / 2 ^^^ stepB b:=by
 have hp:(a ^^^ b) % 2=b % 2:=by
  have:=Nat.xor_mod_two_pow (a:=a) (b:=b) (n:=1);simp only[Nat.pow_one] at this;rw[this,ha,Nat.zero_xor]
  try omega
 have hd:(a ^^^ b) / 2=a / 2 ^^^ b / 2:=by
  have:=Nat.shiftRight_xor_distrib (a:=a) (b:=b) (i:=1);simpa[Nat.shiftRight_eq_div_pow] using this
 unfold stepB;rw[hp,hd]
 by_cases hb:b % 2=1
 ·rw[if_pos hb,if_pos hb,Nat.xor_assoc]
 ·rw[if_neg hb,if_neg hb]
theorem steps_xor (n a b:Nat) (ha:a % 2 ^ n=0):steps n (a ^^^ b)=a / 2 ^ n ^^^ steps n b:=by
 induction n generalizing a b with
 | zero=>simp[steps]
 | succ n ih=>
  have h2:a % 2=0:=by
   have:2 ∣ a:=Nat.dvd_trans (by rw[Nat.pow_succ];exact Nat.dvd_mul_left 2 _) (Nat.dvd_of_mod_eq_zero ha);omega
  have h3:a / 2 % 2 ^ n=0:=by
   have hd:=Nat.dvd_of_mod_eq_zero ha;rw[Nat.pow_succ] at hd;obtain⟨q,rfl⟩:=hd;rw[Nat.mul_comm (2 ^ n) 2,Nat.mul_assoc,Nat.mul_div_cancel_left _ (by decide),Nat.mul_mod_right]
  simp only[steps];rw[stepB_xor a b h2,ih (a / 2) (stepB b) h3,Nat.div_div_eq_div_mul,Nat.pow_succ,Nat.mul_comm 2]
theorem steps_four (x:Nat):steps 4 x=x / 16 ^^^ (half[x % 16]?.getD 0):=by
 have e:x=16*(x / 16) ^^^ x % 16:=by
  have h1:16*(x / 16) ^^^ x % 16=16*(x / 16)+x % 16:=by
   have hb:x % 16<2 ^ 4:=by omega
   apply Nat.eq_of_testBit_eq;intro j;have e1:=Nat.testBit_two_pow_mul_add (x / 16) hb j;have e2:(2 ^ 4*(x / 16)).testBit j=(decide (j≥4) && (x / 16).testBit (j-4)):=Nat.testBit_two_pow_mul ..;rw[Nat.testBit_xor];show((2 ^ 4*(x / 16)).testBit j ^^ (x % 16).testBit j)=(2 ^ 4*(x / 16)+x % 16).testBit j;rw[e1,e2]
   by_cases hj:j<4
   ·have h4:¬j≥4:=by omega
    rw[if_pos hj];simp[h4]
   ·have h0:(x % 16).testBit j=false:=Nat.testBit_lt_two_pow (Nat.lt_of_lt_of_le hb (Nat.pow_le_pow_right (by decide) (by omega)))
    have h4:j≥4:=by omega
    rw[if_neg hj,h0];simp[h4]
  rw[h1];omega
 have h2:=steps_xor 4 (16*(x / 16)) (x % 16) (by omega);rw[←e] at h2;rw[h2,half_eq (x % 16) (by omega)];simp
theorem not32 (s:Nat) (h:s<4294967296):4294967295 ^^^ s=4294967295-s:=by
 apply Nat.eq_of_testBit_eq;intro i;have e:=Nat.testBit_two_pow_sub_succ (n:=32) h i;have e1:2 ^ 32-(s+1)=4294967295-s:=by omega
 have e2:=Nat.testBit_two_pow_sub_one 32 i;rw[e1] at e;rw[Nat.testBit_xor,e];show((2 ^ 32-1).testBit i ^^ s.testBit i)=_;rw[e2]
 by_cases hi:i<32
 ·simp[hi]
 ·have:s.testBit i=false:=Nat.testBit_lt_two_pow (Nat.lt_of_lt_of_le h (show 2 ^ 32≤2 ^ i from Nat.pow_le_pow_right (by decide) (by omega)))
  simp[hi,this]
open Go.RowKit
def Half (w:World):Prop:=0<w.heap.size∧∀i,i<16→w.cell? ⟨0,i,none⟩=some (.int .u32 ((half[i]?.getD 0:Nat):Int))
theorem Half.below {w w':World} {B:Nat} (hB:w.heap.size≤B) (hb:Below B w w') (h:Half w):Half w':=
 ⟨Nat.lt_of_lt_of_le h.1 hb.size,fun i hi=>(hb.cell (p:=⟨0,i,none⟩) (Nat.lt_of_lt_of_le h.1 hB)).trans (h.2 i hi)⟩
theorem Half.grown {w w':World} {t:Nat} (h:Half w) (hg:w.grownBy w' (some t)) (hne:t≠0):Half w':=
 ⟨Nat.lt_of_lt_of_le h.1 hg.size,fun i hi=>(World.cell?_of_block (hg.block 0 h.1 (fun e=>hne (by cases e;rfl)))).trans (h.2 i hi)⟩
theorem max32:IntKind.u32.max=((4294967295:Nat):Int):=by decide
theorem not_u32 (s:Nat) (h:s<4294967296):bits .xor .u32 IntKind.u32.max (s:Int)=((4294967295-s:Nat):Int):=by
 rw[max32,u32_xor_nat 4294967295 s (by decide) h,not32 s h]
theorem and15 (y:Nat) (h:y<4294967296):bits .and .u32 (y:Int) 15=((y % 16:Nat):Int):=by
 have e:=u32_and_nat y 15 h (by decide);have e2:y &&& 15=y % 16:=Nat.and_two_pow_sub_one_eq_mod y 4;rw[e2] at e;exact e
theorem crcOn_any (sum:Nat) (a:Option Addr) (len cap:Nat) (l:List UInt8) (w:World) (hs:sum<4294967296) (hbs:Bs w a len cap l) (hh:Half w) :
 Calls Tryz.prog 112 #[.int .u32 sum,.slice a len cap] w fun e w'=>e=.returned (.int .u32 (crcOn sum l))∧w=w':=by
 have hll:=Hd hbs.len;have hm:=hbs.cap;unfold maxLen at hm;have hn:=not_u32 sum hs;obtain⟨x0,hx0⟩:∃x0,x0=4294967295-sum:=⟨_,rfl⟩
 have hres:crcOn sum l=4294967295-crcX x0 l:=by rw[hx0];rfl
 have hx0b:x0<4294967296:=by omega
 rw[←hx0] at hn;have HR:=Hd hres;clear hx0 hres;go_enter Tryz.func112,Tryz.ntmps112
 go_wp2
 go_loop [5,12] (fun x i=>∃k:Nat,k≤len∧i=.int .i64 k∧x=.int .u32 (crcX x0 (l.take k))) (fun _ i=>len-(intOf i).toNat)
 case atStart=>exact⟨0,Nat.zero_le _,rfl,rfl⟩
 case round=>
  obtain⟨k,hk,rfl,rfl⟩:=hrel
  by_cases hlt:k<len
  ·obtain⟨b,off,rfl,hb,hcell⟩:=hbs.cell hlt
   have hck:=hcell k hlt;have hxl:=crcX_lt (l.take k) hx0b;have hst:crcX x0 (l.take (k+1))=stepC (crcX x0 (l.take k)) (l[k]?.getD 0):=by
    rw[List.take_add_one,List.getElem?_eq_getElem (by rw[hll.out];exact hlt)];exact crcX_snoc _ _ _
   have hcb:(l[k]?.getD 0).toNat<256:=(l[k]?.getD 0).toNat_lt;generalize l[k]?.getD 0=c at *;generalize crcX x0 (l.take k)=x at *;have H:=Hd hst;clear hst hcell;have hx1:=u32_xor_nat x c.toNat (by omega) (by omega);have hy:=xor_lt hxl (show c.toNat<4294967296 by omega);have hy8:stepC x c=steps 4 (steps 4 (x ^^^ c.toNat)):=steps_add 4 4 _;have hz:=steps_lt 4 hy;have f1:=steps_four (x ^^^ c.toNat);have f2:=steps_four (steps 4 (x ^^^ c.toNat));generalize x ^^^ c.toNat=y at *;generalize hzz:steps 4 y=z at *;generalize stepC x c=q at *;generalize hqq:steps 4 z=q' at *;have hq4:=steps_lt 4 hz;rw[hqq] at hq4;have h1:y % 16<16:=by omega
   have h2:z % 16<16:=by omega
   have t1:=hh.2 (y % 16) h1;have t2:=hh.2 (z % 16) h2;have hv1:half[y % 16]?.getD 0<4294967296:=by rw[half_eq _ h1];exact steps_lt 4 (by omega)
   have hv2:half[z % 16]?.getD 0<4294967296:=by rw[half_eq _ h2];exact steps_lt 4 (by omega)
   generalize half[y % 16]?.getD 0=v1 at *;generalize half[z % 16]?.getD 0=v2 at *;have hxo1:=u32_xor_nat (y / 16) v1 (by omega) hv1;have hxo2:=u32_xor_nat (z / 16) v2 (by omega) hv2;rw[←f1] at hxo1;rw[←f2] at hxo2;have hxo1:bits .xor .u32 ((y:Int) / 16) (v1:Int)=(z:Int):=hxo1;have hxo2:bits .xor .u32 ((z:Int) / 16) (v2:Int)=(q':Int):=hxo2;have HQ:=Hd hy8;have a1:=and15 y hy;have a2:=and15 z hz;clear f1 f2 hy8 hzz hqq hh
   go_wp2
   go_round
   case rel=>exact⟨k+1,by omega,by go_num,by rw[H.out,HQ.out]⟩
   case measure=>simp[intOf];omega
  ·obtain rfl:k=len:=by omega
   have hx:l.take k=l:=List.take_of_length_le (by rw[hll.out];exact Nat.le_refl _);rw[hx];have hxl:=crcX_lt l hx0b;have hn2:=not_u32 (crcX x0 l) hxl;rw[←HR.out] at hn2;clear hx;exact q72c811
theorem crcOf_any (a:Option Addr) (len cap:Nat) (l:List UInt8) (w:World) (hbs:Bs w a len cap l) (hh:Half w) :
 Calls Tryz.prog 69 #[.slice a len cap] w fun e w'=>e=.returned (.int .u32 (crcOf l))∧w=w':=by
 go_enter Tryz.func69,Tryz.ntmps69;go_wp2_with fail;refine(crcOn_any 0 a len cap l w (by omega) hbs hh).mono ?_;rintro e w' ⟨rfl,rfl⟩;exact q72c811
theorem refOn_any (sum:Nat) (l:List UInt8) (w:World) (hs:sum<4294967296) (hl:l.length≤9223372036854775807) :
 Calls Tryz.prog 113 #[.int .u32 sum,.string (strOf l)] w fun e w'=>e=.returned (.int .u32 (crcOn sum l))∧w=w':=by
 have hsz:=strOf_size l;obtain⟨x0,hx0⟩:∃x0,x0=4294967295-sum:=⟨_,rfl⟩
 have hres:crcOn sum l=4294967295-crcX x0 l:=by rw[hx0];rfl
 have hx0b:x0<4294967296:=by omega
 have hx0c:(x0:Int)=4294967295-(sum:Int):=by omega
 have HR:=Hd hres;have HX:=Hd hx0c;clear hx0 hres hx0c;go_enter Tryz.func113,Tryz.ntmps113
 go_wp2
 go_loop [5,6,7,8] (fun x i _ _=>∃k:Nat,k≤l.length∧i=.int .i64 k∧x=.int .u32 (crcX x0 (l.take k))) (fun _ i _ _=>l.length-(intOf i).toNat)
 case atStart=>exact⟨0,Nat.zero_le _,rfl,by show _=Value.int .u32 (x0:Int);rw[HX.out]⟩
 case round=>
  obtain⟨k,hk,rfl,rfl⟩:=hrel
  by_cases hlt:k<l.length
  ·have hxl:=crcX_lt (l.take k) hx0b
   have hst:crcX x0 (l.take (k+1))=stepC (crcX x0 (l.take k)) (l[k]?.getD 0):=by
    rw[List.take_add_one,List.getElem?_eq_getElem hlt];exact crcX_snoc _ _ _
   have hget:=strOf_get l k hlt;have hcb:(l[k]?.getD 0).toNat<256:=(l[k]?.getD 0).toNat_lt;generalize l[k]?.getD 0=c at *;generalize crcX x0 (l.take k)=x at *;have H:=Hd hst;clear hst;have hx1:=u32_xor_nat x c.toNat (by omega) (by omega);have hy:=xor_lt hxl (show c.toNat<4294967296 by omega);have hq:stepC x c=steps 8 (x ^^^ c.toNat):=rfl;generalize x ^^^ c.toNat=y at *;generalize stepC x c=q at *;have HQ:=Hd hq;clear hq
   go_wp2
   go_loop [5,7,8] (fun x kk _=>∃j:Nat,j≤8∧kk=.int .i64 j∧x=.int .u32 (steps j y)) (fun _ kk _=>8-(intOf kk).toNat)
   case atStart=>exact⟨0,by omega,rfl,rfl⟩
   case round=>
    obtain⟨j,hj,rfl,rfl⟩:=hrel
    by_cases hj8:j<8
    ·have hz:=steps_lt j hy
     have hs1:=steps_succ j y;generalize steps j y=z at *;have HS:=Hd hs1;clear hs1;have hpo:=u32_xor_nat (z / 2) 3988292384 (by omega) (by omega);have hpo:bits .xor .u32 ((z:Int) / 2) 3988292384=((z / 2 ^^^ 3988292384:Nat):Int):=hpo
     by_cases ho:z % 2=1
     ·have hb:(((z:Int) % 2) == 1)=true:=by simp;omega
      have hbz:stepB z=z / 2 ^^^ 3988292384:=by rw[stepB,if_pos ho]
      have HB:=Hd hbz;clear hbz ho
      go_wp2
      go_round
      case rel=>exact⟨j+1,by omega,by go_num,by rw[HS.out,HB.out]⟩
      case measure=>simp[intOf];omega
     ·have hb:(((z:Int) % 2) == 1)=false:=by simp;omega
      have hbz:stepB z=z / 2:=by rw[stepB,if_neg ho]
      have HB:=Hd hbz;clear hbz ho hpo
      go_wp2
      go_round
      case rel=>exact⟨j+1,by omega,by go_num,by rw[HS.out,HB.out];go_num⟩
      case measure=>simp[intOf];omega
    ·obtain rfl:j=8:=by omega
     rw[←HQ.out]
     go_wp2
     go_round
     case rel=>exact⟨k+1,by omega,by go_num,by rw[H.out]⟩
     case measure=>simp[intOf];omega
  ·obtain rfl:k=l.length:=by omega
   rw[List.take_length];have hxl:=crcX_lt l hx0b;have hn2:(4294967295:Int)-(crcX x0 l:Int)=(crcOn sum l:Int):=by rw[HR.out];omega
   exact q72c811
theorem refOf_any (l:List UInt8) (w:World) (hl:l.length≤9223372036854775807) :
 Calls Tryz.prog 70 #[.string (strOf l)] w fun e w'=>e=.returned (.int .u32 (crcOf l))∧w=w':=by
 go_enter Tryz.func70,Tryz.ntmps70;go_wp2_with fail;refine(refOn_any 0 l w (by omega) hl).mono ?_;rintro e w' ⟨rfl,rfl⟩;exact q72c811
def lens (l:List (List UInt8)):Nat:=(l.map List.length).sum
theorem lens_append (a b:List (List UInt8)):lens (a++b)=lens a+lens b:=by simp[lens]
theorem lens_one (c:List UInt8):lens [c]=c.length:=by simp[lens]
theorem take_snoc {α:Type} (l:List α) (k:Nat) (d:α) (h:k<l.length):l.take (k+1)=l.take k++[l[k]?.getD d]:=by
 rw[List.take_add_one,List.getElem?_eq_getElem h];rfl
theorem lens_take_succ (l:List (List UInt8)) (k:Nat) (h:k<l.length):lens (l.take (k+1))=lens (l.take k)+(l[k]?.getD []).length:=by
 rw[take_snoc l k [] h,lens_append,lens_one]
theorem lens_take_le (l:List (List UInt8)) (k:Nat):lens (l.take k)≤lens l:=by
 have h:=lens_append (l.take k) (l.drop k);rw[List.take_append_drop] at h;omega
def slotsOf:Nat→List (List UInt8)→List UInt8
 | _,[]=>[]
 | e,c::r=>UInt8.ofNat (e-c.length)::slotsOf (e-c.length) r
def backOf (l:List (List UInt8)):List UInt8:=l.reverse.flatten
theorem slotsOf_length (l:List (List UInt8)):∀e,(slotsOf e l).length=l.length:=by
 induction l with
 | nil=>intro e;rfl
 | cons c r ih=>intro e;simp[slotsOf,ih]
theorem slotsOf_append (l m:List (List UInt8)):∀e,slotsOf e (l++m)=slotsOf e l++slotsOf (e-lens l) m:=by
 induction l with
 | nil=>intro e;simp[slotsOf,lens]
 | cons c r ih=>intro e;simp[slotsOf,ih,lens,Nat.sub_sub]
theorem backOf_append (l m:List (List UInt8)):backOf (l++m)=backOf m++backOf l:=by simp[backOf]
theorem backOf_one (c:List UInt8):backOf [c]=c:=by simp[backOf]
theorem backOf_length (l:List (List UInt8)):(backOf l).length=lens l:=by
 induction l with
 | nil=>rfl
 | cons c r ih=>
  have h1:c::r=[c]++r:=rfl;rw[h1,backOf_append,List.length_append,ih,backOf_one,lens_append,lens_one];omega
def bodyOf (kind:UInt8) (n:Nat) (l:List (List UInt8)):List UInt8:=
 kind::UInt8.ofNat n::(slotsOf 128 l++(List.replicate (122-l.length-lens l) 0++backOf l))
def pageOf (kind:UInt8) (l:List (List UInt8)):List UInt8:=beBytes (crcOf (bodyOf kind l.length l)) 4++bodyOf kind l.length l
theorem bodyOf_length (kind:UInt8) (n:Nat) (l:List (List UInt8)) (h:l.length+lens l≤122):(bodyOf kind n l).length=124:=by
 simp[bodyOf,slotsOf_length,backOf_length];omega
def rawOf (kind:UInt8) (n:Nat) (l:List (List UInt8)):List UInt8:=[0,0,0,0]++bodyOf kind n l
theorem rawOf_length (kind:UInt8) (n:Nat) (l:List (List UInt8)) (h:l.length+lens l≤122):(rawOf kind n l).length=128:=by
 rw[rawOf,List.length_append,bodyOf_length kind n l h];rfl
theorem rawOf_nil (kind:UInt8) (n:Nat):rawOf kind n []=((List.replicate 128 (0:UInt8)).set 4 kind).set 5 (UInt8.ofNat n):=by
 simp[rawOf,bodyOf,slotsOf,backOf,lens,List.replicate,List.set]
theorem splice_mid {α:Type} (a z c b:List α) (h:c.length≤z.length):splice (a++(z++b)) (a.length+(z.length-c.length)) c=a++(z.take (z.length-c.length)++(c++b)):=by
 unfold splice;have e1:(a++(z++b)).take (a.length+(z.length-c.length))=a++z.take (z.length-c.length):=by
  rw[List.take_append,List.take_of_length_le (by omega)]
  congr 1
  rw[List.take_append_of_le_length (by omega)]
  congr 1;omega
 have e2:(a++(z++b)).drop (a.length+(z.length-c.length)+c.length)=b:=by
  have:a.length+(z.length-c.length)+c.length=(a++z).length:=by simp;omega
  rw[this,←List.append_assoc,List.drop_append,List.drop_length];simp
 rw[e1,e2];simp
theorem raw_step (kind:UInt8) (n:Nat) (l:List (List UInt8)) (c:List UInt8) (h:l.length+1+lens l+c.length≤122) :
 (splice (rawOf kind n l) (128-lens l-c.length) c).set (6+l.length) (UInt8.ofNat (128-lens l-c.length))=rawOf kind n (l++[c]):=by
 have e1:rawOf kind n l=([0,0,0,0,kind,UInt8.ofNat n]++slotsOf 128 l)++(List.replicate (122-l.length-lens l) 0++backOf l):=by simp[rawOf,bodyOf]
 have e2:=splice_mid ([0,0,0,0,kind,UInt8.ofNat n]++slotsOf 128 l) (List.replicate (122-l.length-lens l) 0) c (backOf l) (by simp;omega);have e3:([0,0,0,0,kind,UInt8.ofNat n]++slotsOf 128 l).length+((List.replicate (122-l.length-lens l) (0:UInt8)).length-c.length)=128-lens l-c.length:=by
  simp[slotsOf_length];omega
 rw[e3] at e2;rw[e1,e2,List.set_append_right _ _ (by simp[slotsOf_length];omega)];have e4:6+l.length-([0,0,0,0,kind,UInt8.ofNat n]++slotsOf 128 l).length=0:=by simp[slotsOf_length];omega
 obtain⟨m,hm⟩:∃m,122-l.length-lens l-c.length=m+1:=⟨122-l.length-lens l-c.length-1,by omega⟩
 have e5:(List.replicate (122-l.length-lens l) (0:UInt8)).take ((List.replicate (122-l.length-lens l) (0:UInt8)).length-c.length)=0::List.replicate m 0:=by
  rw[List.length_replicate,List.take_replicate,Nat.min_eq_left (by omega),hm,List.replicate_succ]
 rw[e4,e5];have e6:122-(l++[c]).length-lens (l++[c])=m:=by simp[lens_append,lens_one];omega
 simp only[rawOf,bodyOf,slotsOf_append,backOf_append,backOf_one,e6,slotsOf,List.cons_append,List.nil_append,List.append_assoc,List.set_cons_zero]
theorem raw_sum (kind:UInt8) (n:Nat) (l:List (List UInt8)) (s:List UInt8) (h:s.length=4):splice (rawOf kind n l) 0 s=s++bodyOf kind n l:=by
 unfold splice rawOf;rw[h];rfl
end Go.Proofs.YtpghlmcoajaiiaaGreatDoor
