/- Texts that other texts of this claim lean on, one behind the other. -/
import Derived.Test.YtpghlmcoajaiiaaGreatDoorB1
import Derived.Test.YtpghlmcoajaiiaaGreatDoorB16
import Derived.Deep.RegionHeld3
import Derived.Test.YtpghlmcoajaiiaaGreatDoorB6
import Derived.Test.YtpghlmcoajaiiaaGreatDoorB15
import Derived.ChangeArms
import Derived.OpenShut
set_option maxHeartbeats 20000000
set_option maxRecDepth 100000
namespace Go.Proofs.YtpghlmcoajaiiaaGreatDoor
open Go.RowKit
theorem lBack20 (a:Option Addr) (n c:Nat) (l:List Pz) (fr:Nat) (hfr:fr≤255) (au:Nat) (hau:au≤65535) (w:World) (h1:Pzs w a n c l) (hh:Half w) :
 Calls Tryz.prog 4 #[.slice a n c,.int .u8 (fr:Int),.int .u16 (au:Int)] w fun e w'=>e=.returned (.bool true)∧Below w.heap.size w w':=by
 have A:=awake20_any w hh;have H1:=Hd h1;clear h1;go_enter Tryz.func4,Tryz.ntmps4;go_wp2_with fail;refine A.mono ?_;rintro e w0 ⟨rfl,hb0⟩;have L:=laid_any (TabR.below (Nat.le_refl _) hb0 H1.out:Pzs w0 a n c l) hfr;have HB0:=Hd hb0;clear A hb0;go_wp2_with fail;refine L.mono ?_;rintro e w1 ⟨hb1,hres⟩;have HB1:=Hd (below_then HB0.out hb1);clear L
 rcases hres with⟨hs,p,lf,a9,m9,c9,vW,rfl⟩|⟨hs,N,T,hlr,R,hR,p,lf,a9,m9,c9,aW,cW,rfl,hn,ho⟩
 ·have HB2:=Hd (below_then HB1.out (show Below w1.heap.size w1 (w1.alloc (.cells #[.int .i64 p,.bool lf,.slice a9 m9 c9] 27)) from Below.al (Below.refl _ _)))
  clear hs hb1;go_wp2_with fail;go_ret;exact⟨rfl,HB2.out⟩
 have hl60:l.length≤60:=by unfold smallZ at hs;simp at hs;exact hs.2
 obtain⟨hN,hWd,hWp,hRn,hpp,hback⟩:=laid_facts hlr hl60 hfr hR;obtain⟨w2,hw2⟩:∃x,w1.alloc (.cells #[.int .i64 p,.bool lf,.slice a9 m9 c9] 27)=x:=⟨_,rfl⟩
 have hpe:p=R.1.page:=by
  exact qc97986
 have hpI:I64 p:=by rw[hpe];unfold I64;omega
 have hb12:Below w1.heap.size w1 w2:=by rw[←hw2];exact Below.al (Below.refl _ _)
 have hWR:=(Wrs.own ho)
 have hWR2:Wrs w2 aW R.2.1.length cW R.2.1:=TabR.below (Nat.le_refl _) hb12 hWR;have hcW:=(TabR.lens hWR).2;unfold maxLen at hcW;have hx2:Boxes w2 [(w1.heap.size,[.int .i64 p,.bool lf,.slice a9 m9 c9])]:=by rw[←hw2];exact(Boxes.nil w1).alloc #[.int .i64 p,.bool lf,.slice a9 m9 c9] 27 rfl
 have hbw2:Below w.heap.size w w2:=below_then HB1.out hb12;have HNN:=Hd ((hn.more hN).below hb12);have HP:=Hd hWR2;have HX:=Hd hx2;have HB2:=Hd hbw2;have HWP:=Hd hWp;have HWD:=Hd hWd;have HPI:=Hd hpI;have HPE:=Hd hpe;have HBK:=Hd hback;have D:=new_ok (aw_one20 w2 1000) (by decide);have hA2:Below w2.heap.size w2 (w2.alloc (.cells #[.int .i64 1000] 3)):=(Below.refl _ _).alloc (Nat.le_refl _) _;have hsz2:(w2.alloc (.cells #[.int .i64 1000] 3)).heap.size=w2.heap.size+1:=by simp
 have HTN:=Hd (fun x hx k hk c hc d f hd hw=>laid_turned hlr hl60 hfr hR (x:=x) hx (k:=k) hk (c:=c) hc (d:=d) (f:=f) hd hw);have HEM:=Hd (fun h0=>laid_empty hlr hl60 hfr hR h0);clear hs hb1 hlr hR hn ho hl60 hpI hpe hb12 hWR hWR2 hx2 hbw2 H1 HB0 HB1 hWp hWd hback hpp hN;go_wp2_with fail;refine D.mono ?_;rintro e w3 ⟨db,rfl,hd3,hb3⟩;rw[hsz2] at hd3;have hw3:Below w2.heap.size w2 w3:=below_then hA2 hb3;have hr3:=RegAt.new (l:=[1000]) (r:=0) (n:=1000) rfl;have HD3:=Hd hd3;have HW3:=Hd hw3;clear D hb3 hsz2 hA2 hd3 hw3;have HR3:=Hd hr3;clear hr3;go_wp2_with fail
 go_loopw [13] (fun s wr=>∃(i:Nat) (d:List Rg),i≤R.2.1.length∧s=.int .i64 i∧One (w2.heap.size+1) wr db (0+i) d∧Wrtn zeros 1000 R.2.1 i d∧Below w2.heap.size w2 wr) (fun s _=>R.2.1.length-(intOf s).toNat)
 case atStart=>exact⟨0,_,Nat.zero_le _,rfl,HD3.out,Wrtn.start HR3.out _,HW3.out⟩
 case round=>
  clear HD3 HW3;obtain⟨i,d,hi,rfl,hd,hwr,hb⟩:=hrel
  by_cases hlt:i<R.2.1.length
  ·obtain⟨bl,ol,y,rfl,hbl,hy,c0,c1⟩:=HP.out.at hlt
   exact qcd2a40
  ·obtain rfl:i=R.2.1.length:=by omega
   have hlt':decide ((R.2.1.length:Int)<(R.2.1.length:Int))=false:=by simp
   obtain⟨fE,hreg,hstand,hrest⟩:=hwr;rw[List.take_length] at hstand hrest;have hld:=HBK.out d fE hreg hstand;rw[←HPE.out] at hld;have hcp:=HX.out.step hb;have f0:=hcp.cell 0 0 rfl rfl;have hbw:=below_then HB2.out hb;have G1:=(load_any hd (hh.below (Nat.le_refl _) hbw) 0 p HPI.out).mono fun e w' h=>h.code
   rw[hld] at G1;have HD:=Hd hd;have HBR:=Hd hb;have HBW:=Hd hbw;have HRG:=Hd hreg;have HST:=Hd hstand;clear hd hbw hb hcp hld hreg hstand hrest;go_wp2_with fail;refine G1.mono ?_;rintro e w5 ⟨hb5,p5,l5,ka5,kn5,kc5,va5,vn5,vc5,ca5,cn5,cc5,rfl,hn5⟩;rw[show codeD (.ok R.1)=0 from rfl];replace hn5:=hn5 _ rfl;change NodeOn _ _ _ _ _ at hn5;obtain⟨w6,hw6⟩:∃x,w5.alloc (.cells #[.int .i64 p5,.bool l5,.slice ka5 kn5 kc5,.slice va5 vn5 vc5,.slice ca5 cn5 cc5] 50)=x:=⟨_,rfl⟩
   have hbaw6:Below w5.heap.size w5 w6:=by rw[←hw6];exact Below.al (Below.refl _ _)
   have hx6:Boxes w6 [(w5.heap.size,[.int .i64 p5,.bool l5,.slice ka5 kn5 kc5,.slice va5 vn5 vc5,.slice ca5 cn5 cc5])]:=by rw[←hw6];exact(Boxes.nil w5).alloc #[.int .i64 p5,.bool l5,.slice ka5 kn5 kc5,.slice va5 vn5 vc5,.slice ca5 cn5 cc5] 50 rfl
   have hB6:=below_via hb5 hbaw6;have hn6:=hn5.below hbaw6;have hNN6:=RNodeOn.below HNN.out (below_then HBR.out hB6);have hbt:Bnd 1000 R.1:=loadD_bnd (HBK.out d fE HRG.out HST.out);have CP:∀W,Below w6.heap.size w6 W→Calls Tryz.prog 18 #[.agg #[.int .i64 p5,.bool l5,.slice ka5 kn5 kc5,.slice va5 vn5 vc5,.slice ca5 cn5 cc5]] W (RNodeTo (fun b=>wr.heap.size≤b∧b<w6.heap.size) 1000 W R.1):=fun W hW=>plain20_any (fun b hb=>Nat.lt_of_lt_of_le hb.2 hW.size) (hn6.lt.below hW) hbt
   have hxn:=HX.out.step (below_then HBR.out hB6);have a0:∀W,Below w6.heap.size w6 W→W.cell? ⟨w5.heap.size,0,none⟩=some (.int .i64 p5):=fun W hW=>(hx6.step hW).cell 0 0 rfl rfl
   have a1:∀W,Below w6.heap.size w6 W→W.cell? ⟨w5.heap.size,1,none⟩=some (.bool l5):=fun W hW=>(hx6.step hW).cell 0 1 rfl rfl
   have a2:∀W,Below w6.heap.size w6 W→W.cell? ⟨w5.heap.size,2,none⟩=some (.slice ka5 kn5 kc5):=fun W hW=>(hx6.step hW).cell 0 2 rfl rfl
   have a3:∀W,Below w6.heap.size w6 W→W.cell? ⟨w5.heap.size,3,none⟩=some (.slice va5 vn5 vc5):=fun W hW=>(hx6.step hW).cell 0 3 rfl rfl
   have a4:∀W,Below w6.heap.size w6 W→W.cell? ⟨w5.heap.size,4,none⟩=some (.slice ca5 cn5 cc5):=fun W hW=>(hx6.step hW).cell 0 4 rfl rfl
   have b0:∀W,Below w6.heap.size w6 W→W.cell? ⟨w1.heap.size,0,none⟩=some (.int .i64 p):=fun W hW=>(hxn.step hW).cell 0 0 rfl rfl
   have b1:∀W,Below w6.heap.size w6 W→W.cell? ⟨w1.heap.size,1,none⟩=some (.bool lf):=fun W hW=>(hxn.step hW).cell 0 1 rfl rfl
   have b2:∀W,Below w6.heap.size w6 W→W.cell? ⟨w1.heap.size,2,none⟩=some (.slice a9 m9 c9):=fun W hW=>(hxn.step hW).cell 0 2 rfl rfl
   have HB6:=Hd hB6;have HX6:=Hd hx6;have HN6:=Hd hn6;clear G1 hb5 hx6 hbaw6 hn5 hn6 hxn hB6;go_upto_region 13 with(fail)
   refine wp_region_noPanic ?_;refine wp_region_held_drew (S:=(fun W=>Below w6.heap.size w6 W)) (by kernel_rfl) (by(repeat (with_reducible first|assumption|exact Below.refl _ _|apply Below.al|apply Below.dr))) (fun hHeld=>?_);refine tks [0,1,2,3,5] ?_;refine rdy 4 (fun K hK=>?_);rw[if_pos (by rfl)]
   go_wp2_with ((go_at_call 18;(with_reducible refine(CP _ ?_).mono ?_);(focus (repeat (with_reducible first|assumption|exact Below.refl _ _|apply Below.al|apply Below.dr)));rintro e wP ⟨cs9,rfl,hrP,hbP⟩;have hBP:Below w6.heap.size w6 wP:=below_via (by(repeat (with_reducible first|assumption|exact Below.refl _ _|apply Below.al|apply Below.dr))) hbP;(obtain⟨g1,g2,g3,rfl⟩:=RNodeOn.open_pos hrP)))
   refine bkw hK (by(repeat (with_reducible first|assumption|exact Below.refl _ _|apply Below.al|apply Below.dr))) (fun hHeld=>?_);clear hK K;refine rdy 6 (fun K hK=>?_);rw[if_pos (by rfl)]
   go_wp2_with ((go_at_call 17;(with_reducible refine(same_any hrP (RNodeOn.below hNN6 hBP)).mono ?_);rintro e wS ⟨rfl,hbS⟩;have hBS:Below w6.heap.size w6 wS:=below_via hBP hbS))
   refine bkw hK (by(repeat (with_reducible first|assumption|exact Below.refl _ _|apply Below.al|apply Below.dr))) (fun hHeld=>?_);clear hK K;refine tks [7,8] ?_;refine wpAnyH_done (by kernel_rfl) ?_ _;refine NoPanic.normal ?_;have h2S:=below_then HBR.out (below_via HB6.out hBS);have HBWS:=Hd (below_then HB2.out h2S);have HDS:=Hd ((HD.out.below HB6.out).below hBS);have hPS:Wrs wS aW R.2.1.length cW R.2.1:=TabR.below (Nat.le_refl _) h2S HP.out;have HPS:=Hd hPS;clear hPS;have z0:=(HX.out.step h2S).cell 0 0 rfl rfl;have H2S:=Hd h2S;clear hbP hBP hbS hBS hrP CP hNN6 hbt h2S a0 a1 a2 a3 a4 b0 b1 b2;generalize hLN:R.2.1.length=LN at *;clear hLN
   by_cases hz:LN=0
   ·have e0:((LN:Int) == 0)=true:=by simp[hz]
    have e0':(LN == 0)=true:=by simp[hz]
    have hp0:p=0:=by rw[HPE.out];exact HEM.out hz
    have e1:(p == 0)=true:=by simp[hp0]
    clear hz hp0;go_wp2_with fail;go_ret;exact⟨rfl,HBWS.out⟩
   have e0:((LN:Int) == 0)=false:=by rw[beq_eq_false_iff_ne];omega
   have e0':(LN == 0)=false:=by rw[beq_eq_false_iff_ne];exact hz
   obtain⟨xi,hxi⟩:∃x,au % LN=x:=⟨_,rfl⟩
   obtain⟨yk,hyk⟩:∃y,au % 128=y:=⟨_,rfl⟩
   have hxm:xi<LN:=by rw[←hxi];exact Nat.mod_lt _ (by omega)
   have hx9:(au:Int) % (LN:Int)=(xi:Int):=by rw[←hxi];omega
   have hxt:(au:Int).tmod (LN:Int)=(xi:Int):=by rw[Int.tmod_eq_emod_of_nonneg (by omega)];exact hx9
   have hy9:(au:Int) % 128=(yk:Int):=by omega
   have hyt:(au:Int).tmod 128=(yk:Int):=by rw[Int.tmod_eq_emod_of_nonneg (by omega)];exact hy9
   have hy8:yk<128:=by omega
   have iwu:IntKind.i64.wrap (au:Int)=(au:Int):=by simp[IntKind.wrap,IntKind.signed,IntKind.bits];omega
   have iwx:IntKind.i64.wrap (xi:Int)=(xi:Int):=by simp[IntKind.wrap,IntKind.signed,IntKind.bits];omega
   have iwy:IntKind.i64.wrap (yk:Int)=(yk:Int):=by simp[IntKind.wrap,IntKind.signed,IntKind.bits];omega
   obtain⟨bl,ol,q,rfl,hbl,hq,c0,c1⟩:=HPS.out.at hxm;have hqm:=List.mem_of_getElem? hq;have hq128:=(HWP.out q hqm).2;have HTN:=Hd (fun k hk c hc d f hd hw=>HTN.out q hqm k hk c hc d f hd hw);obtain⟨py,by9⟩:=q;dsimp only at *;have hpy:0≤py∧py<(1000:Nat):=by have:=(HWP.out _ hqm).1;dsimp only at this;omega
   obtain⟨w10,hw10⟩:∃x,wS.alloc (.cells #[.int .i64 py,.string (strOf by9)] 41)=x:=⟨_,rfl⟩
   have hbaw10:Below wS.heap.size wS w10:=by rw[←hw10];exact Below.al (Below.refl _ _)
   have hx10:Boxes w10 [(wS.heap.size,[.int .i64 py,.string (strOf by9)])]:=by rw[←hw10];exact(Boxes.nil wS).alloc #[.int .i64 py,.string (strOf by9)] 41 rfl
   obtain⟨c11,w11,hcv,hb11,hcl,hfr,hc11,hbsx⟩:=str_turn (P:=Tryz.prog) w10 Tryz.underlying9 Tryz.underlying42 Tryz.underlying5 by9 (by omega) (k:=yk) (by omega);rw[hq128] at hcv hbsx hc11;have hbyk:by9[yk]? = some (by9[yk]?.getD 0):=by rw[List.getElem?_eq_getElem (by omega)];rfl
   obtain⟨u,hu⟩:∃x,by9[yk]?.getD 0=x:=⟨_,rfl⟩
   rw[hu] at hcl hbyk;have hbs:=hbsx (UInt8.ofNat (u.toNat ^^^ 2));rw[xor2_val] at hbs;have hxb:bits .xor .u8 (u.toNat:Int) 2=((u.toNat ^^^ 2:Nat):Int):=u8_xor_nat u.toNat 2 u.toNat_lt (by decide);have hb128:(by9.set yk (UInt8.ofNat (u.toNat ^^^ 2))).length=128:=by rw[List.length_set];exact hq128
   obtain⟨g8,g9,_⟩:=HRG.out.write (p:=py) hpy hb128;change RegAt (writeD d 0 py _) 0 1000 _ at g9;have hld2:=HTN.out yk hy8 (UInt8.ofNat (u.toNat ^^^ 2)) (by rw[hbyk];intro e;exact xor2_ne _ (Option.some.inj e).symm) _ _ g9 HST.out;obtain⟨PB,hPB⟩:∃x,by9.set yk (UInt8.ofNat (u.toNat ^^^ 2))=x:=⟨_,rfl⟩
   rw[hPB] at hbs hb128 g8 hld2;obtain⟨z,hzz⟩:∃x,((u.toNat ^^^ 2:Nat):Int)=x:=⟨_,rfl⟩
   rw[hzz] at hbs hxb;have hbS10:=below_via hbaw10 hb11;obtain⟨w12,hw12⟩:∃x,w11.setCell ⟨w10.heap.size,yk,none⟩ (.int .u8 z)=x:=⟨_,rfl⟩
   have hb12:Below wS.heap.size wS w12:=by rw[←hw12];exact hbS10.setCell (by have:=hbaw10.size;exact this) _
   rw[hw12] at hbs;have hop:=HDS.out.opens_at hb12;have C:=write_o hop hbs (fun g off e=>.inr (by cases e;exact hbaw10.size)) (by omega) 0 py;have k0:w12.cell? ⟨wS.heap.size,0,none⟩=some (.int .i64 py):=by
    rw[←hw12];exact(World.cell?_setCell_far _ _ _ _ (by intro e;have:=hx10.lt 0 rfl;simp at e;omega)).trans ((hx10.step hb11).cell 0 0 rfl rfl)
   have k1:=hx10.cell 0 1 rfl rfl;have HWW:=Hd (below_then H2S.out hb12);have HLD:=Hd hld2;rw[←HPE.out] at hld2;have HLD:=Hd hld2;have hxm9:(xi:Int)<(LN:Int):=by omega
   clear hxi hyk hx9 hy9 hqm hq HTN hpy hbaw10 hb11 hbsx hbyk hu hb128 g8 g9 hld2 hPB hbS10 hb12 hop hx10 hbs HST HRG hcW;unfold maxLen at hc11;go_wp2_with fail;refine C.mono ?_;rintro e wx ⟨rfl,hdx,hbx⟩;have h2x:=HWW.out.trans (hbx.mono (Nat.le_succ _));have z1:=(HX.out.step h2x).cell 0 0 rfl rfl;have hbwx:=below_then HB2.out h2x;have G2:=(load_any hdx (hh.below (Nat.le_refl _) hbwx) 0 p HPI.out).mono fun e w' h=>h.code
   rw[HLD.out] at G2;have HBX:=Hd hbwx;clear C hdx hbx h2x hbwx k0 k1 z0;go_wp2_with fail;refine G2.mono ?_;rintro e w14 ⟨hb14,p7,l7,ka7,kn7,kc7,va7,vn7,vc7,ca7,cn7,cc7,rfl,_⟩;rw[show codeD (.error 12)=12 from rfl];obtain⟨w15,hw15⟩:∃x,w14.alloc (.cells #[.int .i64 p7,.bool l7,.slice ka7 kn7 kc7,.slice va7 vn7 vc7,.slice ca7 cn7 cc7] 50)=x:=⟨_,rfl⟩
   have hbaw15:Below w14.heap.size w14 w15:=by rw[←hw15];exact Below.al (Below.refl _ _)
   have hx15:Boxes w15 [(w14.heap.size,[.int .i64 p7,.bool l7,.slice ka7 kn7 kc7,.slice va7 vn7 vc7,.slice ca7 cn7 cc7])]:=by rw[←hw15];exact(Boxes.nil w14).alloc #[.int .i64 p7,.bool l7,.slice ka7 kn7 kc7,.slice va7 vn7 vc7,.slice ca7 cn7 cc7] 50 rfl
   have HBZ:=Hd (below_then HBX.out (below_via hb14 hbaw15));clear G2 hb14 hx15 hbaw15;go_wp2_with fail;go_ret;exact⟨rfl,HBZ.out⟩
end Go.Proofs.YtpghlmcoajaiiaaGreatDoor
namespace Go.Proofs.YtpghlmcoajaiiaaGreatDoor
open Go.RowKit Go.Deep Go.WideShapes Go.ChangeShapes
section
variable {H:Type} {enc:TypeId×Value→H} {P:Program} {w:World} {base:Nat}
theorem rd_pz {t:TypeId} {f0 f1:Field} (ht:P.underlying t=some (.struct #[f0,f1])) (o0:f0.offset=0) (o1:f1.offset=1)
 (c0:P.cellsOf f0.type=1) (c1:P.cellsOf f1.type=1) (u0:P.underlying f0.type=some .string) (u1:P.underlying f1.type=some (.int .i64)) :
 ∀n cs x,cs.length=2→DataW.trod enc P w 0 (fun _=>true) true n t cs=some x→∃y:Pz,IsPz cs y:=by
 intro n cs x hlen h;obtain⟨xs,k,_,_,_,hxl,hf⟩:=DataW.trod_struct ht h
 match xs,hxl,cs,hlen with
 | [y0,y1],_,[v0,v1],_=>
  have g0:=hf 0 f0 rfl;have g1:=hf 1 f1 rfl;simp[o0,o1,c0,c1] at g0 g1;obtain⟨s,e0,_,_⟩:=DataW.trod_string u0 g0;obtain⟨n1,e1,_,_⟩:=DataW.trod_int u1 g1;simp at e0 e1;refine⟨⟨s.data.toList,n1⟩,?_⟩;show _=pzC _;rw[e0,e1]
  rfl
end
theorem open_pzs {H:Type} {enc:TypeId×Value→H} {w:World} {base:Nat} {v:Value} {d:DataW H} {p:List MemPlace} (hv:Value.okWide Tryz.prog w .any base 22 v) (h:DataW.Trod enc Tryz.prog w 0 (fun _=>true) true 22 v d p) :
 ∃a len cap l,v=.slice a len cap∧Pzs w a len cap l:=
 open_tab Tryz.underlying22 (show Tryz.prog.cellsOf 99=2 by kernel_rfl) (by decide) IsPz (rd_pz Tryz.underlying99 rfl rfl (by kernel_rfl) (by kernel_rfl) Tryz.underlying9 Tryz.underlying3) hv h
end Go.Proofs.YtpghlmcoajaiiaaGreatDoor
