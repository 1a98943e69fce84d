/- Texts that other texts of this claim lean on, one behind the other. -/
import Derived.Test.YtpghlmcoajaiiaaGreatDoorB1
import Derived.Test.YtpghlmcoajaiiaaGreatDoorB13b
import Derived.Test.YtpghlmcoajaiiaaGreatDoorB12b
set_option maxHeartbeats 20000000
set_option maxRecDepth 100000
namespace Go.Proofs.YtpghlmcoajaiiaaGreatDoor
open Go.RowKit
def wvL (d:List UInt8) (left:List Int):List Wr:=if needC d.length=0 then [] else (left.take (needC d.length)).zip (putLC d (left.take (needC d.length)))
def pvL (d:List UInt8) (left:List Int):List Int:=if needC d.length=0 then [] else left.take (needC d.length)
def LValPost (F:Nat→Prop) (w:World) (sb:Nat) (vL:Value) (ws:List Wr) (left:List Int) (d:List UInt8) (e:Ending) (w':World):Prop:=
 ∃(pa:Option Addr) (pn pc:Nat) (vL':Value) (la':Option Addr) (lc':Nat),e=.returned (.agg #[.string (strOf d),.slice pa pn pc])∧LyIn F w' sb vL' (ws++wvL d left) la' lc' (left.drop (needC d.length))∧Only (RS sb vL) w w'∧Turn w vL vL'∧Row .i64 w' pa pn pc (pvL d left)∧Fa F pa pn
theorem lvalue_any {F:Nat→Prop} {w:World} {sb:Nat} {vL:Value} {ws:List Wr} {la:Option Addr} {lc:Nat} {left:List Int} (h:LyIn F w sb vL ws la lc left) (hl:ws.length≤50000) (d:List UInt8) (hd:d.length≤100000) (pa:Option Addr) (pc:Nat) (hpa:Row .i64 w pa 0 pc []) (hn:needC d.length≤left.length) :
 Calls Tryz.prog 132 #[.pointer (some ⟨sb,0,none⟩),.agg #[.string (strOf d),.slice pa 0 pc]] w (LValPost F w sb vL ws left d):=by
 obtain⟨w1,hw1⟩:∃w1,(w.alloc (.cells #[.string (strOf d),.slice pa 0 pc] 142)).alloc (.cells #[.string ⟨#[]⟩,.slice none 0 0] 142)=w1:=⟨_,rfl⟩
 have hx1:Boxes w1 [(w.heap.size+1,[.string ⟨#[]⟩,.slice none 0 0]),(w.heap.size,[.string (strOf d),.slice pa 0 pc])]:=by
  rw[←hw1];exact((Boxes.nil w).alloc #[.string (strOf d),.slice pa 0 pc] 142 (b:=w.heap.size) rfl).alloc #[.string ⟨#[]⟩,.slice none 0 0] 142 (b:=w.heap.size+1) (by simp)
 have hb1:Below w.heap.size w w1:=by rw[←hw1];exact Below.al (Below.al (Below.refl _ _))
 have HS1:=Hd (show w1.heap.size=w.heap.size+2 by rw[←hw1];simp);have hd1:=h.below hb1;have hsb:=h.lt;have hz:=zero_refV;have v0:=hx1.cell 1 0 rfl rfl;have v1:=hx1.cell 1 1 rfl rfl;have hsz:=strOf_size d;obtain⟨N,hN⟩:∃x,needC d.length=x:=⟨_,rfl⟩
 have C:=fun W=>crneed_any (d.length:Int) W
 rw[hN] at C hn
 by_cases hN0:N=0
 ·subst hN0
  have hx2:=(hx1.put 0 (.string (strOf d)) (by intro q hq;simp at hq;subst hq;simp)).put 1 (.slice pa 0 pc) (by intro q hq;simp at hq;subst hq;simp);have z0:=hx2.cell 0 0 rfl rfl;have z1:=hx2.cell 0 1 rfl rfl;have k0:=hx1.cell 0 0 rfl rfl;have k1:=hx1.cell 0 1 rfl rfl;have f0:=hx1.frozen 0 0 rfl;have f1:=hx1.frozen 0 1 rfl;have HE:Hid (LValPost F w sb vL ws left d (.returned (.agg #[.string (strOf d),.slice pa 0 pc])) ((w1.setCell ⟨w.heap.size+1,0,none⟩ (.string (strOf d))).setCell ⟨w.heap.size+1,1,none⟩ (.slice pa 0 pc))):=Hd (by
   have hb2:Below w.heap.size w ((w1.setCell ⟨w.heap.size+1,0,none⟩ (.string (strOf d))).setCell ⟨w.heap.size+1,1,none⟩ (.slice pa 0 pc)):=(hb1.setCell (by show w.heap.size≤w.heap.size+1;omega) _).setCell (by show w.heap.size≤w.heap.size+1;omega) _;refine⟨pa,0,pc,vL,la,lc,rfl,?_,Only.of_below hb2,Turn.refl _ _,?_,.inl rfl⟩
   ·unfold wvL
    rw[if_pos hN,hN,List.append_nil,List.drop_zero];exact h.below hb2
   ·unfold pvL
    rw[if_pos hN];exact hpa.below (Nat.le_refl _) hb2)
  clear hd1 hx1 hx2 h hb1 hN hpa;go_enter Tryz.func132,Tryz.ntmps132;go_wp2_with fail;refine(C _).mono ?_;rintro e wx ⟨rfl,rfl⟩;go_wp2_with fail;refine bodyPost_ret (v:=.agg #[.string (strOf d),.slice pa 0 pc]) (by simp[results,Tryz.results132,go_sem,z0,z1]) rfl ?_;exact HE.out
 ·have q0:((N:Int) == 0)=false:=by simp;exact hN0
  have q0':(N == 0)=false:=by simp;exact hN0
  have hN4:N≤4:=by rw[←hN];exact needC_le _
  have S1:=lsome_any hd1 N hn;have HX1:=Hd hx1;have HB1:=Hd hb1;have HN:=Hd hN;have HVB:=Hd (show ∀k,vL.ownBlock=some k→sb+1≤k∧k<w.heap.size from fun k hk=>h.ge hk);have HFB:=Hd (show ∀b,F b→b<sb from h.fb);have HLA:=Hd (show Row .i64 w la left.length lc left∧∀x,la=some x→F x.block from⟨h.row,h.lf⟩);clear hd1 hx1 hb1 h hN hpa;go_enter Tryz.func132,Tryz.ntmps132;go_wp2_with fail;refine(C _).mono ?_;rintro e wx ⟨rfl,rfl⟩;go_wp2_with fail;refine S1.mono ?_;rintro e w2 ⟨rfl,la2,hy2,ho2⟩;have hs1:=HS1.out;have hs2:=ho2.size;have hrow1:Row .i64 w1 la N lc (left.take N):=(HLA.out.1.take N hn).below (Nat.le_refl _) HB1.out;have hrow2:Row .i64 w2 la N lc (left.take N):=row_only hrow1 ho2 (fun x ex=>by have:=HFB.out _ (HLA.out.2 x ex);omega);have P:=crput_any hrow2 d hd (by omega);have hx2:=HX1.out.only ho2 (by intro q hq;simp at hq;rcases hq with rfl|rfl<;>simp<;>omega);have v2:=hx2.cell 1 0 rfl rfl;obtain⟨B,hB⟩:∃x,putLC d (left.take N)=x:=⟨_,rfl⟩
  have hBl:B.length≤N:=by
   rw[←hB];unfold putLC
   split
   ·simp
    omega
   ·simp
  unfold RPutPostC at P;rw[hB] at P;have HBP:=Hd hB;have HY2:=Hd hy2;have HX2:=Hd hx2;have HROW2:=Hd hrow2;have HO2:=Hd ho2;clear hB hy2 hx2 hrow1 hrow2 ho2 S1;go_wp2_with fail;refine P.mono ?_;rintro e w3 ⟨u,rfl,hou,hb3⟩;obtain⟨ua,uc,rfl,huc,hum,_⟩:=own_slice hou;unfold maxLen at hum;have hs3:=hb3.size;have HOU:=Hd hou;have hgu:=own_ge hou;have HGU:=Hd hgu;have HX3:=Hd (HX2.out.step hb3);have HROW3:=Hd (HROW2.out.below (Nat.le_refl _) hb3);have HS:=Hd (show LyIn F w3 sb vL (ws++((left.take N).zip B).take 0) la2 (lc-N) (left.drop N) by rw[List.take_zero,List.append_nil];exact HY2.out.below hb3);have HB3:=Hd hb3;have hlcm:lc≤9223372036854775807:=by have:=HROW2.out.2.2.1;unfold maxLen at this;omega
  have hNlc:N≤lc:=HROW2.out.2.1;clear P hou hb3 hgu;go_wp2_with fail
  go_loopw [9] (fun s9 wr=>∃(i:Nat) (vi:Value),i≤B.length∧s9=.int .i64 i∧LyIn F wr sb vi (ws++((left.take N).zip B).take i) la2 (lc-N) (left.drop N)∧Only (RS sb vL) w3 wr∧Turn w3 vL vi) (fun s _=>B.length-(intOf s).toNat)
  case atStart=>exact⟨0,vL,Nat.zero_le _,rfl,HS.out,Only.refl _ _,Turn.refl _ _⟩
  case round=>
   clear HS;obtain⟨i,vi,hi,rfl,hy,ho,ht⟩:=hrel;have iw2:IntKind.i64.wrap ((i:Int)+1)=(i:Int)+1:=by simp[IntKind.wrap,IntKind.signed,IntKind.bits];omega
   have hsr:=ho.size
   by_cases hlt:i<B.length
   ·obtain⟨b,off,rfl,hbl,hc⟩:=HROW3.out.2.2.2.2.resolve_left (by omega)
    have hbF:b<sb:=HFB.out _ (HLA.out.2 _ rfl);obtain⟨x,hx⟩:∃x,(left.take N)[i]? = some x:=⟨_,List.getElem?_eq_getElem (by have:=HROW3.out.1;omega)⟩
    have k0:=hc i (by omega);rw[hx] at k0;have k0:w3.cell? ⟨b,off+i,none⟩=some (.int .i64 x):=k0;obtain⟨y,hyy⟩:∃y,B[i]? = some y:=⟨B[i],by simp⟩
    obtain⟨au,cu,e9,_,_,_,hcc⟩:=own_cells1 HOU.out;cases e9;obtain⟨g,rfl,hg,kb⟩:=hcc i (sv y) (by simp[hyy]);have hg2:w2.heap.size≤g:=HGU.out g rfl;have hnr:∀k,(k<sb∨w2.heap.size≤k)→k∉RS sb vL:=fun k hk hm=>by
     rcases RS.mem.1 hm with e|e
     ·omega
     ·have:=HVB.out k e;omega
    have m0:wr.cell? ⟨b,off+i,none⟩=some (.int .i64 x):=(World.cell?_of_block (ho.block (k:=b) hbl (hnr b (.inl hbF)))).trans k0;have m1:wr.cell? ⟨g,i,none⟩=some (.string (strOf y)):=(World.cell?_of_block (ho.block (k:=g) hg (hnr g (.inr hg2)))).trans kb;have htk:((left.take N).zip B).take (i+1)=((left.take N).zip B).take i++[(x,y)]:=List.take_succ_eq_append_of ((List.getElem?_zip_eq_some (z:=(x,y))).2 ⟨hx,hyy⟩);have hzl:(((left.take N).zip B).take i).length≤4:=by simp;omega
    have hb0:Below wr.heap.size wr wr.drew:=below_drewN (Below.refl _ _) 1;have C9:=lwrite_any (hy.below hb0) (by rw[List.length_append];omega) x y;have hnv:∀k,(k<sb∨(w2.heap.size≤k∧k<w3.heap.size))→k∉RS sb vi:=fun k hk hm=>by
     rcases RS.mem.1 hm with e|e
     ·omega
     ·have h7:=(hy.ge e).1
      rcases ht with t|t
      ·have:=HVB.out k (t ▸ e);omega
      ·have:=t k e;omega
    have cA:∀W:World,(W.cell? ⟨b,off+i,none⟩=some (.int .i64 x)∧W.cell? ⟨g,i,none⟩=some (.string (strOf y)))→W.cell? ⟨b,off+i,none⟩=some (.int .i64 x):=fun W h=>h.1
    have cB:∀W:World,(W.cell? ⟨b,off+i,none⟩=some (.int .i64 x)∧W.cell? ⟨g,i,none⟩=some (.string (strOf y)))→W.cell? ⟨g,i,none⟩=some (.string (strOf y)):=fun W h=>h.2
    have h00:wr.drew.cell? ⟨b,off+i,none⟩=some (.int .i64 x)∧wr.drew.cell? ⟨g,i,none⟩=some (.string (strOf y)):=⟨m0,m1⟩
    have hiN:i<N:=by omega
    have q1:decide ((i:Int)<(B.length:Int))=true:=decide_eq_true (by omega);have q2:decide (i<B.length)=true:=decide_eq_true hlt;have q3:decide ((i:Int)<(N:Int))=true:=decide_eq_true (by omega);have q4:decide (i<N)=true:=decide_eq_true hiN;have HO:=Hd ho;have HT:=Hd ht;have HTK:=Hd htk;have HNV:=Hd hnv;have HBL:=Hd (show b<wr.heap.size∧g<wr.heap.size from⟨by omega,by omega⟩);have HGW:=Hd (show w2.heap.size≤g∧g<w3.heap.size from⟨hg2,hg⟩);clear hy ho ht hc hx hyy kb hcc hnr htk hzl hnv hb0 m0 m1 k0;go_wp2_with fail
    go_region_held3 (fun W:World=>W.cell? ⟨b,off+i,none⟩=some (.int .i64 x)∧W.cell? ⟨g,i,none⟩=some (.string (strOf y))) (with_reducible assumption) (first|(go_at_call 136;refine C9.mono ?_;rintro e wx ⟨rfl,v4,hy4,ho4,ht4⟩;have hSx:wx.cell? ⟨b,off+i,none⟩=some (.int .i64 x)∧wx.cell? ⟨g,i,none⟩=some (.string (strOf y)):=⟨(World.cell?_of_block (ho4.block (k:=b) (by have:=HBL.out;simpa using this.1) (HNV.out b (.inl hbF)))).trans h00.1,(World.cell?_of_block (ho4.block (k:=g) (by have:=HBL.out;simpa using this.2) (HNV.out g (.inr HGW.out)))).trans h00.2⟩))
    have HY4:=Hd (show LyIn F wx sb v4 (ws++((left.take N).zip B).take (i+1)) la2 (lc-N) (left.drop N) by rw[HTK.out,←List.append_assoc];exact hy4);have HO4:=Hd (show Only (RS sb vL) w3 wx from only_next HO.out HT.out ho4);have HT4:=Hd (show Turn w3 vL v4 from HT.out.trans ht4 HO.out.size);clear C9 cA cB h00 hy4 ho4 ht4 hSx;go_wp2_with fail;go_roundw
    case rel=>exact⟨i+1,v4,hlt,by go_num,HY4.out,HO4.out,HT4.out⟩
    case measure=>simp[intOf];omega
   ·have hin:i=B.length:=by omega
    subst hin;have q1:decide ((B.length:Int)<(B.length:Int))=false:=decide_eq_false (by omega);have q2:decide (B.length<B.length)=false:=decide_eq_false hlt;have hbk:∀q∈[(w.heap.size+1,[Value.string ⟨#[]⟩,Value.slice none 0 0]),(w.heap.size,[.string (strOf d),.slice pa 0 pc])],q.1∉RS sb vL:=by
     intro q hq hm;have hq2:w.heap.size≤q.1:=by simp at hq;rcases hq with rfl|rfl<;>simp
     rcases RS.mem.1 hm with e|e
     ·omega
     ·have:=HVB.out _ e;omega
    have hx4:=HX3.out.only ho hbk;have f0:=hx4.frozen 0 0 rfl;have f1:=hx4.frozen 0 1 rfl;have k0:=hx4.cell 0 0 rfl rfl;have k1:=hx4.cell 0 1 rfl rfl;have v4:=hx4.cell 1 0 rfl rfl;have hx5:=(hx4.put 0 (.string (strOf d)) (by intro q hq;simp at hq;subst hq;simp)).put 1 (.slice la N lc) (by intro q hq;simp at hq;subst hq;simp);have z0:=hx5.cell 0 0 rfl rfl;have z1:=hx5.cell 0 1 rfl rfl;have HE:Hid (LValPost F w sb vL ws left d (.returned (.agg #[.string (strOf d),.slice la N lc])) ((wr.setCell ⟨w.heap.size+1,0,none⟩ (.string (strOf d))).setCell ⟨w.heap.size+1,1,none⟩ (.slice la N lc))):=Hd (by
     obtain⟨we,hwe⟩:∃x,x=((wr.setCell ⟨w.heap.size+1,0,none⟩ (.string (strOf d))).setCell ⟨w.heap.size+1,1,none⟩ (.slice la N lc)):=⟨_,rfl⟩
     rw[←hwe];have ho5:Only [w.heap.size+1] wr we:=by rw[hwe];exact((Only.refl _ _).set _ _ (by simp)).set _ _ (by simp)
     have hvi:∀k,vi.ownBlock=some k→k<w.heap.size∨w3.heap.size≤k:=fun k hk=>by
      rcases ht with t|t
      ·exact .inl (HVB.out k (t ▸ hk)).2
      ·exact .inr (t k hk)
     have hyE:=hy.only ho5 (fun k hk=>by
      have hk:k=w.heap.size+1:=by simpa using hk
      subst hk;exact⟨by omega,fun e=>by rcases hvi _ e with e|e<;>omega⟩)
     have hoA:Only (RS sb vL) w wr:=(((Only.of_below HB1.out).trans (HO2.out.mono (fun k hk=>by simp at hk;exact RS.mem.2 (.inl hk)))).trans (Only.of_below HB3.out)).trans ho;have hNN:=HN.out;have hyE2:LyIn F we sb vi (ws++wvL d left) la2 (lc-N) (left.drop (needC d.length)):=by
      unfold wvL;rw[hNN,if_neg hN0,HBP.out];rw[List.take_of_length_le (by simp;omega)] at hyE;exact hyE
     refine⟨la,N,lc,vi,la2,lc-N,rfl,hyE2,hoA.then ho5 (fun k hk=>.inr (by simp at hk;omega)),ht.from (by omega),?_,.inr fun b off e=>HLA.out.2 _ e⟩;unfold pvL;rw[hNN,if_neg hN0];have hr4:Row .i64 wr la N lc (left.take N):=by
      obtain⟨h1,h2,h3,h4,h5⟩:=HROW3.out;refine⟨h1,h2,h3,h4,h5.imp id ?_⟩;rintro⟨b,off,e,hb,hc⟩;have hbF:b<sb:=HFB.out _ (HLA.out.2 _ e);exact⟨b,off,e,by omega,fun i hi=>(World.cell?_of_block (ho.block (k:=b) hb (fun hm=>by rcases RS.mem.1 hm with e|e;omega;have:=HVB.out b e;omega))).trans (hc i hi)⟩
     exact row_at hr4 ho5.size (fun x ex=>by
      have hbF:x.block<sb:=HFB.out _ (HLA.out.2 _ ex);rw[hwe];exact(Below.heap_setCell _ _ _ x.block (fun e=>by have:x.block=w.heap.size+1:=e;omega)).trans (Below.heap_setCell _ _ _ x.block (fun e=>by have:x.block=w.heap.size+1:=e;omega))))
    clear hx4 hx5 hy ho ht hbk;go_wp2_with fail;refine bodyPost_ret (v:=.agg #[.string (strOf d),.slice la N lc]) (by simp[results,Tryz.results132,go_sem,z0,z1]) rfl ?_;exact HE.out
theorem rcell_near (w:World) (key d:List UInt8) (pa:Option Addr) (pc:Nat) (ka:Option Addr) (kn kc:Nat) :
 Calls Tryz.prog 133 #[.bool true,.agg #[.string (strOf key),.string (strOf d),.slice pa 0 pc,.slice ka kn kc]] w fun e w'=>e=.returned (.agg #[.string (strOf key),.string (strOf d),.bool false,.int .i64 0,.int .i64 0])∧Below w.heap.size w w':=by
 obtain⟨w2,hw2⟩:∃x,(w.alloc (.cells #[.string (strOf key),.string (strOf d),.slice pa 0 pc,.slice ka kn kc] 145)).alloc (.cells #[.string ⟨#[]⟩,.string ⟨#[]⟩,.bool false,.int .i64 0,.int .i64 0] 226)=x:=⟨_,rfl⟩
 have hb2:Below w.heap.size w w2:=by rw[←hw2];exact Below.al (Below.al (Below.refl _ _))
 have hx2:Boxes w2 [(w.heap.size+1,#[.string ⟨#[]⟩,.string ⟨#[]⟩,.bool false,.int .i64 0,.int .i64 0].toList),(w.heap.size,#[.string (strOf key),.string (strOf d),.slice pa 0 pc,.slice ka kn kc].toList)]:=by
  rw[←hw2];exact((Boxes.nil w).alloc #[.string (strOf key),.string (strOf d),.slice pa 0 pc,.slice ka kn kc] 145 (b:=w.heap.size) rfl).alloc #[.string ⟨#[]⟩,.string ⟨#[]⟩,.bool false,.int .i64 0,.int .i64 0] 226 (b:=w.heap.size+1) (by simp)
 have HS2:=Hd (show w2.heap.size=w.heap.size+2 by rw[←hw2];simp);obtain⟨w3,hw3⟩:∃x,x=w2.alloc (.cells #[.string (strOf key),.string (strOf d),.bool false,.int .i64 0,.int .i64 0] 226):=⟨_,rfl⟩
 have hb23:Below w2.heap.size w2 w3:=by rw[hw3];exact Below.al (Below.refl _ _)
 have hx3:Boxes w3 [(w2.heap.size,#[.string (strOf key),.string (strOf d),.bool false,.int .i64 0,.int .i64 0].toList),(w.heap.size+1,#[.string ⟨#[]⟩,.string ⟨#[]⟩,.bool false,.int .i64 0,.int .i64 0].toList),(w.heap.size,#[.string (strOf key),.string (strOf d),.slice pa 0 pc,.slice ka kn kc].toList)]:=by
  exact qb8d653
 have hb3:Below w.heap.size w w3:=hb2.trans (hb23.mono hb2.size);have c0:=hx2.cell 1 0 rfl rfl;have c1:=hx2.cell 1 1 rfl rfl;have c2:=hx3.cell 2 2 rfl rfl;have c3:=hx3.cell 2 3 rfl rfl;have cd:=hx3.cell 2 1 rfl rfl;have hz:∀W:World,(zeroValue 226).run Tryz.prog W=.ok (.agg #[.string ⟨#[]⟩,.string ⟨#[]⟩,.bool false,.int .i64 0,.int .i64 0]) W:=fun W=>by kernel_rfl
 have hz2:∀W:World,(zeroValue 224).run Tryz.prog W=.ok (.agg #[.string ⟨#[]⟩,.bool false,.int .i64 0,.int .i64 0]) W:=fun W=>by kernel_rfl
 have hsz:=strOf_size d;have hx4:=hx3;obtain⟨w4,hw4⟩:∃x,x=w3:=⟨_,rfl⟩
 have hb4:=hb3;have n0:=hx4.cell 0 0 rfl rfl;have n1:=hx4.cell 0 1 rfl rfl;have n2:=hx4.cell 0 2 rfl rfl;have n3:=hx4.cell 0 3 rfl rfl;have n4:=hx4.cell 0 4 rfl rfl;have m0:=hx4.cell 1 0 rfl rfl;have m1:=hx4.cell 1 1 rfl rfl;have m2:=hx4.cell 1 2 rfl rfl;have m3:=hx4.cell 1 3 rfl rfl;have m4:=hx4.cell 1 4 rfl rfl;have u0:=hx4.frozen 1 0 rfl;have u1:=hx4.frozen 1 1 rfl;have u2:=hx4.frozen 1 2 rfl;have u3:=hx4.frozen 1 3 rfl;have u4:=hx4.frozen 1 4 rfl;have e0:=hx3.cell 0 1 rfl rfl;have e1:=hx3.cell 0 2 rfl rfl;have e2:=hx3.cell 0 3 rfl rfl;have e3:=hx3.cell 0 4 rfl rfl;have t0:=hx3.frozen 0 1 rfl;have t1:=hx3.frozen 0 2 rfl;have t2:=hx3.frozen 0 3 rfl;have t3:=hx3.frozen 0 4 rfl;have hxr:Boxes w3 [(w.heap.size+1,[.string ⟨#[]⟩,.string ⟨#[]⟩,.bool false,.int .i64 0,.int .i64 0])]:=hx4.sub (by intro q hq;simp at hq ⊢;subst hq;exact .inr (.inl rfl));obtain⟨we,hwe⟩:∃x,x=set5 w3 (w.heap.size+1) (.string (strOf key)) (.string (strOf d)) (.bool false) (.int .i64 0) (.int .i64 0):=⟨_,rfl⟩
 have hxe:=set5_box (l:=[]) hxr (by intro q hq;simp at hq) (.string (strOf key)) (.string (strOf d)) (.bool false) (.int .i64 0) (.int .i64 0);rw[←hwe] at hxe;have z0:=hxe.cell 0 0 rfl rfl;have z1:=hxe.cell 0 1 rfl rfl;have z2:=hxe.cell 0 2 rfl rfl;have z3:=hxe.cell 0 3 rfl rfl;have z4:=hxe.cell 0 4 rfl rfl;have hbe:Below w.heap.size w we:=by
  rw[hwe];exact set5_below (hb4) (Nat.le_succ _) _ _ _ _ _
 have HBE:=Hd hbe;have HW3:=Hd hw3;have HW4:=Hd hw4;clear hbe hxe hxr hx4 hx3 hx2 hb2 hb23 hb3 hb4 hw3 hw4;go_enter Tryz.func133,Tryz.ntmps133;go_upto_region 2 with(fail)
 rw[←HW3.out];go_wp2_with fail;change bodyPost Tryz.prog _ _ _ _ (set5 w3 (w.heap.size+1) (.string (strOf key)) (.string (strOf d)) (.bool false) (.int .i64 0) (.int .i64 0));rw[←hwe];refine bodyPost_ret (v:=.agg #[.string (strOf key),.string (strOf d),.bool false,.int .i64 0,.int .i64 0]) (by simp[results,Tryz.results133,go_sem,z0,z1,z2,z3,z4]) rfl ?_;exact⟨rfl,HBE.out⟩
theorem rcell_far (w:World) (key d:List UInt8) (pa:Option Addr) (pn pc:Nat) (pages:List Int) (ph:Int) (hph:pages.headD 0=ph) (hp:Row .i64 w pa pn pc pages) (h0:0<pn) (ka:Option Addr) (kn kc:Nat) :
 Calls Tryz.prog 133 #[.bool true,.agg #[.string (strOf key),.string (strOf d),.slice pa pn pc,.slice ka kn kc]] w fun e w'=>e=.returned (.agg #[.string (strOf key),.string (strOf []),.bool true,.int .i64 (d.length:Int),.int .i64 ph])∧Below w.heap.size w w':=by
 obtain⟨w2,hw2⟩:∃x,(w.alloc (.cells #[.string (strOf key),.string (strOf d),.slice pa pn pc,.slice ka kn kc] 145)).alloc (.cells #[.string ⟨#[]⟩,.string ⟨#[]⟩,.bool false,.int .i64 0,.int .i64 0] 226)=x:=⟨_,rfl⟩
 have hb2:Below w.heap.size w w2:=by rw[←hw2];exact Below.al (Below.al (Below.refl _ _))
 have hx2:Boxes w2 [(w.heap.size+1,#[.string ⟨#[]⟩,.string ⟨#[]⟩,.bool false,.int .i64 0,.int .i64 0].toList),(w.heap.size,#[.string (strOf key),.string (strOf d),.slice pa pn pc,.slice ka kn kc].toList)]:=by
  rw[←hw2];exact((Boxes.nil w).alloc #[.string (strOf key),.string (strOf d),.slice pa pn pc,.slice ka kn kc] 145 (b:=w.heap.size) rfl).alloc #[.string ⟨#[]⟩,.string ⟨#[]⟩,.bool false,.int .i64 0,.int .i64 0] 226 (b:=w.heap.size+1) (by simp)
 have HS2:=Hd (show w2.heap.size=w.heap.size+2 by rw[←hw2];simp);obtain⟨w3,hw3⟩:∃x,x=w2.alloc (.cells #[.string (strOf key),.string (strOf d),.bool false,.int .i64 0,.int .i64 0] 226):=⟨_,rfl⟩
 have hb23:Below w2.heap.size w2 w3:=by rw[hw3];exact Below.al (Below.refl _ _)
 have hx3:Boxes w3 [(w2.heap.size,#[.string (strOf key),.string (strOf d),.bool false,.int .i64 0,.int .i64 0].toList),(w.heap.size+1,#[.string ⟨#[]⟩,.string ⟨#[]⟩,.bool false,.int .i64 0,.int .i64 0].toList),(w.heap.size,#[.string (strOf key),.string (strOf d),.slice pa pn pc,.slice ka kn kc].toList)]:=by
  exact qb8d653
 have hb3:Below w.heap.size w w3:=hb2.trans (hb23.mono hb2.size);have c0:=hx2.cell 1 0 rfl rfl;have c1:=hx2.cell 1 1 rfl rfl;have c2:=hx3.cell 2 2 rfl rfl;have c3:=hx3.cell 2 3 rfl rfl;have cd:=hx3.cell 2 1 rfl rfl;have hz:∀W:World,(zeroValue 226).run Tryz.prog W=.ok (.agg #[.string ⟨#[]⟩,.string ⟨#[]⟩,.bool false,.int .i64 0,.int .i64 0]) W:=fun W=>by kernel_rfl
 have hz2:∀W:World,(zeroValue 224).run Tryz.prog W=.ok (.agg #[.string ⟨#[]⟩,.bool false,.int .i64 0,.int .i64 0]) W:=fun W=>by kernel_rfl
 have hsz:=strOf_size d;obtain⟨b,off,rfl,hbl,hc⟩:=hp.2.2.2.2.resolve_left (by omega);have p0:w.cell? ⟨b,off,none⟩=some (.int .i64 ph):=by
  have:=hc 0 h0;rw[←hph];rw[List.headD_eq_head?_getD,List.head?_eq_getElem?];simpa using this
 have p1:=(hb3.cell (p:=⟨b,off,none⟩) hbl).trans p0;clear hph;have q1:decide ((0:Int)<(pn:Int))=true:=decide_eq_true (by omega);have q2:decide (0<pn)=true:=decide_eq_true h0;have hx4:=(((hx3.put 1 (.string ⟨#[]⟩) (by intro q hq;simp at hq;rcases hq with rfl|rfl<;>simp<;>have:=HS2.out<;>omega)).put 2 (.bool true) (by intro q hq;simp at hq;rcases hq with rfl|rfl<;>simp<;>have:=HS2.out<;>omega)).put 3 (.int .i64 (d.length:Int)) (by intro q hq;simp at hq;rcases hq with rfl|rfl<;>simp<;>have:=HS2.out<;>omega)).put 4 (.int .i64 ph) (by intro q hq;simp at hq;rcases hq with rfl|rfl<;>simp<;>have:=HS2.out<;>omega);obtain⟨w4,hw4⟩:∃x,x=((((w3.setCell ⟨w2.heap.size,1,none⟩ (.string ⟨#[]⟩)).setCell ⟨w2.heap.size,2,none⟩ (.bool true)).setCell ⟨w2.heap.size,3,none⟩ (.int .i64 (d.length:Int))).setCell ⟨w2.heap.size,4,none⟩ (.int .i64 ph)):=⟨_,rfl⟩
 rw[←hw4] at hx4;have hb4:Below w.heap.size w w4:=by
  have hk9:w.heap.size≤w2.heap.size:=hb2.size;rw[hw4];exact(((hb3.setCell hk9 _).setCell hk9 _).setCell hk9 _).setCell hk9 _
 have n0:=hx4.cell 0 0 rfl rfl;have n1:=hx4.cell 0 1 rfl rfl;have n2:=hx4.cell 0 2 rfl rfl;have n3:=hx4.cell 0 3 rfl rfl;have n4:=hx4.cell 0 4 rfl rfl;have m0:=hx4.cell 1 0 rfl rfl;have m1:=hx4.cell 1 1 rfl rfl;have m2:=hx4.cell 1 2 rfl rfl;have m3:=hx4.cell 1 3 rfl rfl;have m4:=hx4.cell 1 4 rfl rfl;have u0:=hx4.frozen 1 0 rfl;have u1:=hx4.frozen 1 1 rfl;have u2:=hx4.frozen 1 2 rfl;have u3:=hx4.frozen 1 3 rfl;have u4:=hx4.frozen 1 4 rfl;have e0:=hx3.cell 0 1 rfl rfl;have e1:=hx3.cell 0 2 rfl rfl;have e2:=hx3.cell 0 3 rfl rfl;have e3:=hx3.cell 0 4 rfl rfl;have t0:=hx3.frozen 0 1 rfl;have t1:=hx3.frozen 0 2 rfl;have t2:=hx3.frozen 0 3 rfl;have t3:=hx3.frozen 0 4 rfl;have hxr:Boxes w4 [(w.heap.size+1,[.string ⟨#[]⟩,.string ⟨#[]⟩,.bool false,.int .i64 0,.int .i64 0])]:=hx4.sub (by intro q hq;simp at hq ⊢;subst hq;exact .inr (.inl rfl));obtain⟨we,hwe⟩:∃x,x=set5 w4.drew (w.heap.size+1) (.string (strOf key)) (.string (strOf [])) (.bool true) (.int .i64 (d.length:Int)) (.int .i64 ph):=⟨_,rfl⟩
 have hxe:=set5_box (l:=[]) (show Boxes w4.drew _ from hxr) (by intro q hq;simp at hq) (.string (strOf key)) (.string (strOf [])) (.bool true) (.int .i64 (d.length:Int)) (.int .i64 ph);rw[←hwe] at hxe;have z0:=hxe.cell 0 0 rfl rfl;have z1:=hxe.cell 0 1 rfl rfl;have z2:=hxe.cell 0 2 rfl rfl;have z3:=hxe.cell 0 3 rfl rfl;have z4:=hxe.cell 0 4 rfl rfl;have hbe:Below w.heap.size w we:=by
  rw[hwe];exact set5_below (Below.dr hb4) (Nat.le_succ _) _ _ _ _ _
 have HBE:=Hd hbe;have HW3:=Hd hw3;have HW4:=Hd hw4;clear hbe hxe hxr hx4 hx3 hx2 hb2 hb23 hb3 hb4 hw3 hw4 hp hc;go_enter Tryz.func133,Tryz.ntmps133;go_upto_region 2 with(fail)
 rw[←HW3.out];go_wp2_with fail
 go_region
 all_goals (
  rw[←HW4.out];go_wp2_with fail;change bodyPost Tryz.prog _ _ _ _ (set5 w4.drew (w.heap.size+1) (.string (strOf key)) (.string (strOf [])) (.bool true) (.int .i64 (d.length:Int)) (.int .i64 ph));rw[←hwe];refine bodyPost_ret (v:=.agg #[.string (strOf key),.string (strOf []),.bool true,.int .i64 (d.length:Int),.int .i64 ph]) (by simp[results,Tryz.results133,go_sem,z0,z1,z2,z3,z4]) rfl ?_;exact⟨rfl,HBE.out⟩)
theorem rcell_kid (w:World) (key d:List UInt8) (pa:Option Addr) (pn pc:Nat) (kb ko:Nat) (page:Int) (hk:kb<w.heap.size∧w.cell? ⟨kb,ko,none⟩=some (.int .i64 page)) (kn kc:Nat) (h0:0<kn) :
 Calls Tryz.prog 133 #[.bool false,.agg #[.string (strOf key),.string (strOf d),.slice pa pn pc,.slice (some ⟨kb,ko,none⟩) kn kc]] w fun e w'=>e=.returned (.agg #[.string (strOf key),.string (strOf []),.bool false,.int .i64 0,.int .i64 page])∧Below w.heap.size w w':=by
 obtain⟨w2,hw2⟩:∃x,(w.alloc (.cells #[.string (strOf key),.string (strOf d),.slice pa pn pc,.slice (some ⟨kb,ko,none⟩) kn kc] 145)).alloc (.cells #[.string ⟨#[]⟩,.string ⟨#[]⟩,.bool false,.int .i64 0,.int .i64 0] 226)=x:=⟨_,rfl⟩
 have hb2:Below w.heap.size w w2:=by rw[←hw2];exact Below.al (Below.al (Below.refl _ _))
 have hx2:Boxes w2 [(w.heap.size+1,#[.string ⟨#[]⟩,.string ⟨#[]⟩,.bool false,.int .i64 0,.int .i64 0].toList),(w.heap.size,#[.string (strOf key),.string (strOf d),.slice pa pn pc,.slice (some ⟨kb,ko,none⟩) kn kc].toList)]:=by
  rw[←hw2];exact((Boxes.nil w).alloc #[.string (strOf key),.string (strOf d),.slice pa pn pc,.slice (some ⟨kb,ko,none⟩) kn kc] 145 (b:=w.heap.size) rfl).alloc #[.string ⟨#[]⟩,.string ⟨#[]⟩,.bool false,.int .i64 0,.int .i64 0] 226 (b:=w.heap.size+1) (by simp)
 have HS2:=Hd (show w2.heap.size=w.heap.size+2 by rw[←hw2];simp);obtain⟨w3,hw3⟩:∃x,x=w2.alloc (.cells #[.string (strOf key),.string (strOf d),.bool false,.int .i64 0,.int .i64 0] 226):=⟨_,rfl⟩
 have hb23:Below w2.heap.size w2 w3:=by rw[hw3];exact Below.al (Below.refl _ _)
 have hx3:Boxes w3 [(w2.heap.size,#[.string (strOf key),.string (strOf d),.bool false,.int .i64 0,.int .i64 0].toList),(w.heap.size+1,#[.string ⟨#[]⟩,.string ⟨#[]⟩,.bool false,.int .i64 0,.int .i64 0].toList),(w.heap.size,#[.string (strOf key),.string (strOf d),.slice pa pn pc,.slice (some ⟨kb,ko,none⟩) kn kc].toList)]:=by
  exact qb8d653
 have hb3:Below w.heap.size w w3:=hb2.trans (hb23.mono hb2.size);have c0:=hx2.cell 1 0 rfl rfl;have c1:=hx2.cell 1 1 rfl rfl;have c2:=hx3.cell 2 2 rfl rfl;have c3:=hx3.cell 2 3 rfl rfl;have cd:=hx3.cell 2 1 rfl rfl;have hz:∀W:World,(zeroValue 226).run Tryz.prog W=.ok (.agg #[.string ⟨#[]⟩,.string ⟨#[]⟩,.bool false,.int .i64 0,.int .i64 0]) W:=fun W=>by kernel_rfl
 have hz2:∀W:World,(zeroValue 224).run Tryz.prog W=.ok (.agg #[.string ⟨#[]⟩,.bool false,.int .i64 0,.int .i64 0]) W:=fun W=>by kernel_rfl
 have hsz:=strOf_size d;have p0:=(hb3.cell (p:=⟨kb,ko,none⟩) hk.1).trans hk.2;have q1:decide ((0:Int)<(kn:Int))=true:=decide_eq_true (by omega);have q2:decide (0<kn)=true:=decide_eq_true h0;have hx4:=(((hx3.put 1 (.string ⟨#[]⟩) (by intro q hq;simp at hq;rcases hq with rfl|rfl<;>simp<;>have:=HS2.out<;>omega)).put 2 (.bool false) (by intro q hq;simp at hq;rcases hq with rfl|rfl<;>simp<;>have:=HS2.out<;>omega)).put 3 (.int .i64 0) (by intro q hq;simp at hq;rcases hq with rfl|rfl<;>simp<;>have:=HS2.out<;>omega)).put 4 (.int .i64 page) (by intro q hq;simp at hq;rcases hq with rfl|rfl<;>simp<;>have:=HS2.out<;>omega);obtain⟨w4,hw4⟩:∃x,x=((((w3.setCell ⟨w2.heap.size,1,none⟩ (.string ⟨#[]⟩)).setCell ⟨w2.heap.size,2,none⟩ (.bool false)).setCell ⟨w2.heap.size,3,none⟩ (.int .i64 0)).setCell ⟨w2.heap.size,4,none⟩ (.int .i64 page)):=⟨_,rfl⟩
 rw[←hw4] at hx4;have hb4:Below w.heap.size w w4:=by
  have hk9:w.heap.size≤w2.heap.size:=hb2.size;rw[hw4];exact(((hb3.setCell hk9 _).setCell hk9 _).setCell hk9 _).setCell hk9 _
 have n0:=hx4.cell 0 0 rfl rfl;have n1:=hx4.cell 0 1 rfl rfl;have n2:=hx4.cell 0 2 rfl rfl;have n3:=hx4.cell 0 3 rfl rfl;have n4:=hx4.cell 0 4 rfl rfl;have m0:=hx4.cell 1 0 rfl rfl;have m1:=hx4.cell 1 1 rfl rfl;have m2:=hx4.cell 1 2 rfl rfl;have m3:=hx4.cell 1 3 rfl rfl;have m4:=hx4.cell 1 4 rfl rfl;have u0:=hx4.frozen 1 0 rfl;have u1:=hx4.frozen 1 1 rfl;have u2:=hx4.frozen 1 2 rfl;have u3:=hx4.frozen 1 3 rfl;have u4:=hx4.frozen 1 4 rfl;have e0:=hx3.cell 0 1 rfl rfl;have e1:=hx3.cell 0 2 rfl rfl;have e2:=hx3.cell 0 3 rfl rfl;have e3:=hx3.cell 0 4 rfl rfl;have t0:=hx3.frozen 0 1 rfl;have t1:=hx3.frozen 0 2 rfl;have t2:=hx3.frozen 0 3 rfl;have t3:=hx3.frozen 0 4 rfl;have hxr:Boxes w4 [(w.heap.size+1,[.string ⟨#[]⟩,.string ⟨#[]⟩,.bool false,.int .i64 0,.int .i64 0])]:=hx4.sub (by intro q hq;simp at hq ⊢;subst hq;exact .inr (.inl rfl));obtain⟨we,hwe⟩:∃x,x=set5 w4 (w.heap.size+1) (.string (strOf key)) (.string (strOf [])) (.bool false) (.int .i64 0) (.int .i64 page):=⟨_,rfl⟩
 have hxe:=set5_box (l:=[]) hxr (by intro q hq;simp at hq) (.string (strOf key)) (.string (strOf [])) (.bool false) (.int .i64 0) (.int .i64 page);rw[←hwe] at hxe;have z0:=hxe.cell 0 0 rfl rfl;have z1:=hxe.cell 0 1 rfl rfl;have z2:=hxe.cell 0 2 rfl rfl;have z3:=hxe.cell 0 3 rfl rfl;have z4:=hxe.cell 0 4 rfl rfl;have hbe:Below w.heap.size w we:=by
  rw[hwe];exact set5_below (hb4) (Nat.le_succ _) _ _ _ _ _
 have HBE:=Hd hbe;have HW3:=Hd hw3;have HW4:=Hd hw4;clear hbe hxe hxr hx4 hx3 hx2 hb2 hb23 hb3 hb4 hw3 hw4 hk;go_enter Tryz.func133,Tryz.ntmps133;go_upto_region 2 with(fail)
 rw[←HW3.out];go_upto_region 6 with(fail)
 rw[←HW4.out];go_wp2_with fail;change bodyPost Tryz.prog _ _ _ _ (set5 w4 (w.heap.size+1) (.string (strOf key)) (.string (strOf [])) (.bool false) (.int .i64 0) (.int .i64 page));rw[←hwe];refine bodyPost_ret (v:=.agg #[.string (strOf key),.string (strOf []),.bool false,.int .i64 0,.int .i64 page]) (by simp[results,Tryz.results133,go_sem,z0,z1,z2,z3,z4]) rfl ?_;exact⟨rfl,HBE.out⟩
open Go.RowKit
theorem rnput_any (leaf:Bool) (a:Option Addr) (len cap:Nat) (l:List En) (w:World) (h:NEnts w a len cap l) (hlen:len≤65536) (hd:SmE l) :
 Calls Tryz.prog 135 #[.agg #[.bool leaf,.slice a len cap]] w (StrPost w (putN leaf l) (putNE leaf l)):=by
 have hB:=below_one w (.cells #[.bool leaf,.slice a len cap] 221);have BX:=(Boxes.nil w).alloc #[.bool leaf,.slice a len cap] 221 rfl;have h1:=h.below (Nat.le_refl _) hB;have CK:=rcheckN_any leaf a len cap l _ h1 hlen hd;cases hn:nodeB leaf l with
 | false=>
  rw[hn] at CK;have hp:putN leaf l=[]:=by rw[putN,hn];rfl
  have he:putNE leaf l=1:=by rw[putNE,hn];rfl
  rw[hp,he];clear hp he hn;go_enter Tryz.func135,Tryz.ntmps135;go_wp2_with fail;refine CK.mono ?_;rintro e w1 ⟨rfl,hb1⟩;have hb:=below_then hB hb1;go_wp2_with fail
  go_ret2
  exact⟨rfl,hb⟩
 | true=>
  rw[hn] at CK;obtain⟨q1,q2⟩:=pack_node hn;have hlens:=cellsN_lens leaf 1000000 l (fun e he=>(hd e he).2);have hll:=h.len;rw[hll] at hlens;have CE:∀W,Below w.heap.size w W→Calls Tryz.prog 170 #[.agg #[.bool leaf,.slice a len cap]] W (OwnStrs W (cellsN leaf l)):=fun W hW=>rcells_any leaf a len cap l W (h.below (Nat.le_refl _) hW) hlen hd
  have PK:∀W a2 n2 c2,Strs W a2 n2 c2 (cellsN leaf l)→Calls Tryz.prog 169 #[.int .u8 (kindN leaf).toNat,.slice a2 n2 c2] W (StrPost W (putN leaf l) (putNE leaf l)):=fun W a2 n2 c2 h2=>by
   have hk2:n2=len:=by have:=h2.1;rw[cellsN_length,hll] at this;exact this.symm
   subst hk2;have:=rpack_any (kindN leaf) a2 n2 c2 (cellsN leaf l) W h2 (by omega)
   rwa [q1,q2] at this
  clear q1 q2 hlens hn hd hll h1;generalize putN leaf l=pn at *;generalize putNE leaf l=pe at *;generalize cellsN leaf l=cl at *;cases leaf
  all_goals
   have PK:∀W a2 n2 c2,Strs W a2 n2 c2 cl→Calls Tryz.prog 169 #[.int .u8 _,.slice a2 n2 c2] W (StrPost W pn pe):=PK;simp only[kindN,if_true,Bool.false_eq_true,if_false] at PK;go_enter Tryz.func135,Tryz.ntmps135;go_wp2_with fail;refine CK.mono ?_;rintro e w1 ⟨rfl,hb1⟩;have hb:=below_then hB hb1;have BX:=BX.step hb1;have d0:=BX.cell 0 0 rfl rfl;have d1:=BX.cell 0 1 rfl rfl;clear CK hb1 hB;go_wp2_with fail;refine(CE _ hb).mono ?_;rintro e w3 ⟨v3,rfl,ho3,hb3⟩;obtain⟨a3,k3,rfl,hs3⟩:=Strs.of_own ho3;have hb:=below_then hb hb3;clear d0 d1;go_wp2_with fail;refine(PK _ _ _ _ hs3).mono ?_;rintro e w4 ⟨rfl,hb4⟩;have hb:=below_then hb hb4;go_wp2_with fail
   go_ret2
   exact⟨rfl,hb⟩
open Go.RowKit
def LG (F:Nat→Prop) (B:Nat) (vL vC vE:Value) (b:Nat):Prop:=F b∨(B≤b∧vL.ownBlock≠some b∧vC.ownBlock≠some b∧vE.ownBlock≠some b)
structure LM (F:Nat→Prop) (w wB:World) (sb:Nat) (vL0 vb:Value) (ob mb rb n:Nat) (lf:Bool) (vL:Value) (ws:List Wr) (la:Option Addr) (lc:Nat) (left:List Int) (vC:Value) (LL:List (Cl 4)) (ys:List Rc) (vE:Value) (es:List En) (wr:World):Prop where
 box:Boxes wr [(ob,[.int .i64 0,.bool lf,vC]),(mb,[.bool lf,vE]),(rb,[.int .i64 0,.bool false,.slice none 0 0])]
 ly:LyIn F wr sb vL ws la lc left
 rc:wr.ownsRow wB.heap.size 145 4 vC LL.length (flatC LL)
 re:wr.ownsRow wB.heap.size 226 5 vE es.length (es.flatMap ecells)
 dc:∀g,vC.ownBlock=some g→vL.ownBlock≠some g
 de:∀g,vE.ownBlock=some g→vL.ownBlock≠some g
 dce:∀g,vC.ownBlock=some g→vE.ownBlock≠some g
 tl:Tells (RcOn (LG F wB.heap.size vL vC vE) n wr) LL ys
 ol:Only (RS sb vL0) w wr
 tu:Turn w vL0 vL
 tb:Turn wB vb vL
 ag:AgreeF (fun b=>b≠sb∧b≠ob∧b≠mb∧vb.ownBlock≠some b) wB wr
 bv:∀g,vb.ownBlock=some g→g≠ob∧g≠mb∧g≠rb∧g<wB.heap.size
 so:sb<w.heap.size
 ro:w.heap.size≤rb
 oo:rb<ob
 om:ob<mb
 on:mb<wB.heap.size
section
variable {F:Nat→Prop} {w wB wr w':World} {sb:Nat} {vL0 vb:Value} {ob mb rb n:Nat} {lf:Bool} {vL:Value} {ws:List Wr} {la:Option Addr} {lc:Nat} {left:List Int} {vC:Value} {LL:List (Cl 4)} {ys:List Rc} {vE:Value} {es:List En}
theorem LM.lt (h:LM F w wB sb vL0 vb ob mb rb n lf vL ws la lc left vC LL ys vE es wr):ob<wr.heap.size∧wB.heap.size≤wr.heap.size:=⟨h.box.lt 0 rfl,h.ag.1⟩
theorem LM.lgc (h:LM F w wB sb vL0 vb ob mb rb n lf vL ws la lc left vC LL ys vE es wr) {g:Nat} (hg:vC.ownBlock=some g):wB.heap.size≤g∧g<wr.heap.size:=World.ownsRow.lt h.rc g hg
theorem LM.lge (h:LM F w wB sb vL0 vb ob mb rb n lf vL ws la lc left vC LL ys vE es wr) {g:Nat} (hg:vE.ownBlock=some g):wB.heap.size≤g∧g<wr.heap.size:=World.ownsRow.lt h.re g hg
theorem LM.vne (h:LM F w wB sb vL0 vb ob mb rb n lf vL ws la lc left vC LL ys vE es wr) {g:Nat} (hg:vL.ownBlock=some g):g≠ob∧g≠mb∧g≠rb∧g<wr.heap.size:=by
 have h2:=(h.ly.ge hg).2;have:=h.on;have:=h.oo;have:=h.om
 rcases h.tb with t|t
 ·have:=h.bv g (t ▸ hg);exact⟨this.1,this.2.1,this.2.2.1,h2⟩
 ·have:=t g hg;exact⟨by omega,by omega,by omega,h2⟩
theorem LM.turn {vL':Value} {ws':List Wr} {la':Option Addr} {lc':Nat} {left':List Int} (h:LM F w wB sb vL0 vb ob mb rb n lf vL ws la lc left vC LL ys vE es wr) (hd:LyIn F w' sb vL' ws' la' lc' left') (ho:Only (RS sb vL) wr w') (ht:Turn wr vL vL'):LM F w wB sb vL0 vb ob mb rb n lf vL' ws' la' lc' left' vC LL ys vE es w':=by
 have hlt:=h.lt;have hsb:=h.so;have hro:=h.ro;have hoo:=h.oo;have hom:=h.om;have hon:=h.on;have hne:∀g,wB.heap.size≤g→vL.ownBlock≠some g→g∉RS sb vL:=fun g hg h2 hm=>by
  rcases RS.mem.1 hm with e|e
  ·omega
  ·exact h2 e
 refine⟨h.box.only ho (by
  intro q hq hm
  rcases RS.mem.1 hm with e|e
  ·simp at hq;rcases hq with rfl|rfl|rfl<;>simp at e<;>omega
  ·have:=h.vne e;simp at hq;rcases hq with rfl|rfl|rfl<;>simp at this),hd,own_only h.rc ho (fun k hk=>hne k (h.lgc hk).1 (h.dc k hk)),own_only h.re ho (fun k hk=>hne k (h.lge hk).1 (h.de k hk)),fun g hg e=>?_,fun g hg e=>?_,h.dce,?_,only_next h.ol h.tu ho,h.tu.trans ht h.ol.size,h.tb.trans ht h.ag.1,⟨Nat.le_trans h.ag.1 ho.size,fun b hb hlt2=>?_⟩,h.bv,h.so,h.ro,h.oo,h.om,h.on⟩
 ·rcases ht with t|t
  ·exact h.dc g hg (t ▸ e)
  ·have:=t g e;have:=(h.lgc hg).2;omega
 ·rcases ht with t|t
  ·exact h.de g hg (t ▸ e)
  ·have:=t g e;have:=(h.lge hg).2;omega
 ·refine h.tl.mono (fun _ _ _ hc=>rcMove hc ⟨ho.size,fun b hb hlt2=>ho.block hlt2 (fun hm=>?_)⟩ (fun b hb hlt2=>?_))
  ·rcases hb with hb|hb
   ·have:=h.ly.fb b hb
    rcases RS.mem.1 hm with e|e
    ·omega
    ·have:=(h.ly.ge e).1;omega
   ·exact hne b hb.1 hb.2.1 hm
  ·refine hb.imp id fun hb=>⟨hb.1,fun e=>?_,hb.2.2⟩
   rcases ht with t|t
   ·exact hb.2.1 (t ▸ e)
   ·have:=t b e;omega
 ·refine(ho.block (by have:=h.ag.1;omega) (fun hm=>?_)).trans (h.ag.2 b hb hlt2)
  rcases RS.mem.1 hm with e|e
  ·exact hb.1 e
  ·rcases h.tb with t|t
   ·exact hb.2.2.2 (t ▸ e)
   ·have:=t b e;omega
theorem LM.below (h:LM F w wB sb vL0 vb ob mb rb n lf vL ws la lc left vC LL ys vE es wr) (hb:Below wr.heap.size wr w'):LM F w wB sb vL0 vb ob mb rb n lf vL ws la lc left vC LL ys vE es w':=
 h.turn (h.ly.below hb) (Only.of_below hb) (Turn.refl _ _)
theorem LM.pushC (h:LM F w wB sb vL0 vb ob mb rb n lf vL ws la lc left vC LL ys vE es wr) (hl:LL.length≤1000) {x0 x1 x2 x3:Value} {y:Rc} (hone:∀u∈[x0,x1,x2,x3],u.oneCell'=true) (hy:RcOn (LG F wB.heap.size vL vC vE) n wr [x0,x1,x2,x3] y) :
 ∃a' c' w' LL',(Builtin.append_ #[25,25] 25 #[vC,.slice (some ⟨wr.heap.size,0,none⟩) 1 1]).run Tryz.prog (wr.alloc (.cells #[x0,x1,x2,x3] 145))=.ok (.slice a' (LL.length+1) c') w' ∧
  w'.cell? ⟨ob,2,none⟩=some vC∧w'.frozen? ⟨ob,2,none⟩=false∧LL'.length=LL.length+1∧LM F w wB sb vL0 vb ob mb rb n lf vL ws la lc left (.slice a' (LL.length+1) c') LL' (ys++[y]) vE es (w'.setCell ⟨ob,2,none⟩ (.slice a' (LL.length+1) c'))∧Only (ob::vC.ownBlock.toList) wr (w'.setCell ⟨ob,2,none⟩ (.slice a' (LL.length+1) c')):=by
 have hlt:=h.lt;have hsb:=h.so;have hro:=h.ro;have hoo:=h.oo;have hom:=h.om;have hon:=h.on;obtain⟨i,z,i1,i2,i3,i4,i5⟩:=info_Cr;obtain⟨v',w',hr,ho,hg,hv⟩:=run_append_new (P:=Tryz.prog) wB.heap.size 25 145 i z 4 80 Tryz.underlying25 i1 i2 i3 i4 i5 (by decide) h.rc #[x0,x1,x2,x3] rfl (by simpa using hone) (by unfold maxLen;omega) (by omega) hlt.2;obtain⟨a',c',rfl,_⟩:=own_slice ho;have hbx:=h.box.grown hg (by intro q hq e;have:=(h.lgc e).1;simp at hq;rcases hq with rfl|rfl|rfl<;>simp at this<;>omega);have hvt:Turn wr vC (.slice a' (LL.length+1) c'):=by
  rcases hv with hv|hv
  ·exact .inl hv
  ·exact .inr fun g e=>by rw[hv] at e;have:=Option.some.inj e;omega
 have hge:=own_ge ho;have hag:AgreeF (fun b=>vC.ownBlock≠some b∧b≠ob) wr (w'.setCell ⟨ob,2,none⟩ (.slice a' (LL.length+1) c')):=AgreeF.set ⟨hg.size,fun b hb hlt=>hg.block b hlt (fun e=>hb.1 e.symm)⟩ (.inl fun h=>h.2 rfl);have hoS:Only (ob::vC.ownBlock.toList) wr (w'.setCell ⟨ob,2,none⟩ (.slice a' (LL.length+1) c')):=(Only.of_grown hg (fun k hk=>.inl (by rw[hk];simp))).set _ _ (by simp);have hmS:∀k∈ob::vC.ownBlock.toList,k=ob∨vC.ownBlock=some k:=fun k hk=>by
  cases hvl:vC.ownBlock with
  | none=>rw[hvl] at hk;simp at hk;exact .inl hk
  | some g=>rw[hvl] at hk;simp at hk;rcases hk with rfl|rfl;exact .inl rfl;exact .inr rfl
 obtain⟨cc,hcc⟩:∃cc:Cl 4,cc.1=[x0,x1,x2,x3]:=⟨⟨_,rfl,hone⟩,rfl⟩
 have hfl:flatC (LL++[cc])=flatC LL++[x0,x1,x2,x3]:=by rw[flatC_append,←hcc];exact congrArg (flatC LL++·) (List.append_nil _)
 have hG:∀b,LG F wB.heap.size vL vC vE b→b<wr.heap.size→LG F wB.heap.size vL (.slice a' (LL.length+1) c') vE b:=fun b hb hlt2=>hb.imp id fun hb=>⟨hb.1,hb.2.1,fun e=>by
  rcases hvt with t|t
  ·exact hb.2.2.1 (t ▸ e)
  ·have:=t b e;omega,hb.2.2.2⟩
 have hA:AgreeF (LG F wB.heap.size vL vC vE) wr (w'.setCell ⟨ob,2,none⟩ (.slice a' (LL.length+1) c')):=hag.sub (fun b hb=>by
  rcases hb with hb|hb
  ·have:=h.ly.fb b hb;exact⟨fun e=>by have:=(h.lgc e).1;omega,by omega⟩
  ·exact⟨hb.2.2.1,by have:=hb.1;omega⟩)
 refine⟨a',c',w',LL++[cc],hr,hbx.cell 0 2 rfl rfl,hbx.frozen 0 2 rfl,by simp,⟨hbx.put 2 _ (by intro q hq;simp at hq;rcases hq with rfl|rfl<;>simp<;>omega),h.ly.only hoS (fun k hk=>?_),?_,own_only h.re hoS (fun k hk hm=>?_),fun g hg2 e=>?_,h.de,fun g hg2 e=>?_,?_,h.ol.then hoS (fun k hk=>.inr ?_),h.tu,h.tb,⟨Nat.le_trans h.ag.1 hag.1,fun b hb hlt2=>(hag.2 b ⟨fun e=>by have:=(h.lgc e).1;omega,hb.2.1⟩ (by omega)).trans (h.ag.2 b hb hlt2)⟩,h.bv,h.so,h.ro,h.oo,h.om,h.on⟩,hoS⟩
 ·rcases hmS k hk with rfl|hk
  ·exact⟨by omega,fun e=>(h.vne e).1 rfl⟩
  ·exact⟨by have:=(h.lgc hk).1;omega,h.dc k hk⟩
 ·rw[hfl,List.length_append]
  exact own_set ho ⟨ob,2,none⟩ _ (fun e=>by have:=hge _ e;simp at this;omega)
 ·rcases hmS k hm with rfl|hm
  ·have:=(h.lge hk).1;omega
  ·exact h.dce k hm hk
 ·rcases hvt with t|t
  ·exact h.dc g (t ▸ hg2) e
  ·have:=t g hg2;have:=(h.vne e).2.2.2;omega
 ·rcases hvt with t|t
  ·exact h.dce g (t ▸ hg2) e
  ·have:=t g hg2;have:=(h.lge e).2;omega
 ·exact(h.tl.mono (fun _ _ _ hc=>rcMove hc hA hG)).append (Tells.one (by rw[hcc];exact rcMove hy hA hG))
 ·rcases hmS k hk with rfl|hk
  ·omega
  ·have:=(h.lgc hk).1;omega
end
open Go.RowKit
section
variable {F:Nat→Prop} {w wB wr w':World} {sb:Nat} {vL0 vb:Value} {ob mb rb n:Nat} {lf:Bool} {vL:Value} {ws:List Wr} {la:Option Addr} {lc:Nat} {left:List Int} {vC:Value} {LL:List (Cl 4)} {ys:List Rc} {vE:Value} {es:List En}
theorem LM.pushE (h:LM F w wB sb vL0 vb ob mb rb n lf vL ws la lc left vC LL ys vE es wr) (hl:es.length≤1000) (e1:En) :
 ∃a' c' w',(Builtin.append_ #[219,219] 219 #[vE,.slice (some ⟨wr.heap.size,0,none⟩) 1 1]).run Tryz.prog (wr.alloc (.cells (ecells e1).toArray 226))=.ok (.slice a' (es.length+1) c') w' ∧
  w'.cell? ⟨mb,1,none⟩=some vE∧w'.frozen? ⟨mb,1,none⟩=false∧AgreeF (fun x=>vE.ownBlock≠some x∧x≠mb) wr w'∧AgreeF (fun x=>vE.ownBlock≠some x∧x≠mb) wr (w'.setCell ⟨mb,1,none⟩ (.slice a' (es.length+1) c'))∧LM F w wB sb vL0 vb ob mb rb n lf vL ws la lc left vC LL ys (.slice a' (es.length+1) c') (es++[e1]) (w'.setCell ⟨mb,1,none⟩ (.slice a' (es.length+1) c')):=by
 have hlt:=h.lt;have hsb:=h.so;have hro:=h.ro;have hoo:=h.oo;have hom:=h.om;have hon:=h.on;obtain⟨i,i1,i2,i3,i4⟩:=info_parts info_re;obtain⟨v',w',hr,ho,hg,hv⟩:=run_append_new (P:=Tryz.prog) wB.heap.size 219 226 i _ 5 56 Tryz.underlying219 i1 i2 i3 i4 rfl (by decide) h.re (ecells e1).toArray rfl (by intro u hu;simp[ecells,vcells] at hu;rcases hu with rfl|rfl|rfl|rfl|rfl<;>rfl) (by unfold maxLen;omega) (by omega) hlt.2;obtain⟨a',c',rfl,_⟩:=own_slice ho;have hbx:=h.box.grown hg (by intro q hq e;have:=(h.lge e).1;simp at hq;rcases hq with rfl|rfl|rfl<;>simp at this<;>omega);have hvt:Turn wr vE (.slice a' (es.length+1) c'):=by
  rcases hv with hv|hv
  ·exact .inl hv
  ·exact .inr fun g e=>by rw[hv] at e;have:=Option.some.inj e;omega
 have hge:=own_ge ho;have hag:AgreeF (fun b=>vE.ownBlock≠some b∧b≠mb) wr (w'.setCell ⟨mb,1,none⟩ (.slice a' (es.length+1) c')):=AgreeF.set ⟨hg.size,fun b hb hlt=>hg.block b hlt (fun e=>hb.1 e.symm)⟩ (.inl fun h=>h.2 rfl);have hoS:Only (mb::vE.ownBlock.toList) wr (w'.setCell ⟨mb,1,none⟩ (.slice a' (es.length+1) c')):=(Only.of_grown hg (fun k hk=>.inl (by rw[hk];simp))).set _ _ (by simp);have hmS:∀k∈mb::vE.ownBlock.toList,k=mb∨vE.ownBlock=some k:=fun k hk=>by
  cases hvl:vE.ownBlock with
  | none=>rw[hvl] at hk;simp at hk;exact .inl hk
  | some g=>rw[hvl] at hk;simp at hk;rcases hk with rfl|rfl;exact .inl rfl;exact .inr rfl
 have hG:∀b,LG F wB.heap.size vL vC vE b→b<wr.heap.size→LG F wB.heap.size vL vC (.slice a' (es.length+1) c') b:=fun b hb hlt2=>hb.imp id fun hb=>⟨hb.1,hb.2.1,hb.2.2.1,fun e=>by
  rcases hvt with t|t
  ·exact hb.2.2.2 (t ▸ e)
  ·have:=t b e;omega⟩
 have hA:AgreeF (LG F wB.heap.size vL vC vE) wr (w'.setCell ⟨mb,1,none⟩ (.slice a' (es.length+1) c')):=hag.sub (fun b hb=>by
  rcases hb with hb|hb
  ·have:=h.ly.fb b hb;exact⟨fun e=>by have:=(h.lge e).1;omega,by omega⟩
  ·exact⟨hb.2.2.2,by have:=hb.1;omega⟩)
 have hbm:Boxes w' [(mb,[.bool lf,vE]),(ob,[.int .i64 0,.bool lf,vC]),(rb,[.int .i64 0,.bool false,.slice none 0 0])]:=hbx.sub (by intro q hq;simp at hq ⊢;rcases hq with rfl|rfl|rfl<;>simp);refine⟨a',c',w',hr,hbm.cell 0 1 rfl rfl,hbm.frozen 0 1 rfl,⟨hg.size,fun b hb hlt=>hg.block b hlt (fun e=>hb.1 e.symm)⟩,hag,⟨(hbm.put 1 (.slice a' (es.length+1) c') (by intro q hq;simp at hq;rcases hq with rfl|rfl<;>simp<;>omega)).sub (by intro q hq;simp at hq ⊢;rcases hq with rfl|rfl|rfl<;>simp),h.ly.only hoS (fun k hk=>?_),own_only h.rc hoS (fun k hk hm=>?_),?_,h.dc,fun g hg2 e=>?_,fun g hg2 e=>?_,?_,h.ol.then hoS (fun k hk=>.inr ?_),h.tu,h.tb,⟨Nat.le_trans h.ag.1 hag.1,fun b hb hlt2=>(hag.2 b ⟨fun e=>by have:=(h.lge e).1;omega,hb.2.2.1⟩ (by omega)).trans (h.ag.2 b hb hlt2)⟩,h.bv,h.so,h.ro,h.oo,h.om,h.on⟩⟩
 ·rcases hmS k hk with rfl|hk
  ·exact⟨by omega,fun e=>(h.vne e).2.1 rfl⟩
  ·exact⟨by have:=(h.lge hk).1;omega,h.de k hk⟩
 ·rcases hmS k hm with rfl|hm
  ·have:=(h.lgc hk).1;omega
  ·exact h.dce k hk hm
 ·rw[List.length_append,List.flatMap_append]
  have e9:es.flatMap ecells++List.flatMap ecells [e1]=es.flatMap ecells++(ecells e1).toArray.toList:=by simp
  rw[e9];exact own_set ho ⟨mb,1,none⟩ _ (fun e=>by have:=hge _ e;simp at this;omega)
 ·rcases hvt with t|t
  ·exact h.de g (t ▸ hg2) e
  ·have:=t g hg2;have:=(h.vne e).2.2.2;omega
 ·rcases hvt with t|t
  ·exact h.dce g hg2 (t ▸ e)
  ·have:=t g e;have:=(h.lgc hg2).2;omega
 ·exact h.tl.mono (fun _ _ _ hc=>rcMove hc hA hG)
 ·rcases hmS k hk with rfl|hk
  ·omega
  ·have:=(h.lge hk).1;omega
theorem LM.node {t:Tr} {G:Nat→Prop} (h:LM F w wB sb vL0 vb ob mb rb n lf vL ws la lc left vC LL (cellsR t) vE es wr) (ha:AgreeF (fun b=>F b∨(wB.heap.size≤b∧vL.ownBlock≠some b)) wr w') (hG:∀b,(F b∨(wB.heap.size≤b∧vL.ownBlock≠some b))→b<wr.heap.size→G b):RNodeOn G (n+1) w' [.int .i64 t.page,.bool t.isLeaf,vC] t:=by
 have ht:=h.tl;have hlen:LL.length=(cellsR t).length:=ht.1;obtain⟨a',c',rfl,hr⟩:=Raw.of_own h.rc rfl;have hT:=(hr.tab ht)
 have hfa:Fa (fun b=>(F b∨(wB.heap.size≤b∧vL.ownBlock≠some b))∧b<wr.heap.size) a' LL.length:=by
  rcases Nat.eq_zero_or_pos LL.length with h0|h0
  ·exact .inl h0
  ·refine .inr fun b off e=>?_
   subst e;exact⟨.inr ⟨(h.lgc rfl).1,h.dc b rfl⟩,(h.lgc rfl).2⟩
 have hT2:=TabR.agree (F:=fun b=>(F b∨(wB.heap.size≤b∧vL.ownBlock≠some b))∧b<wr.heap.size) hT hfa (ha.sub fun b hb=>hb.1) (R':=RcOn G n w') (fun cs y _ hc=>rcMove hc (ha.sub fun b hb=>hb.imp id fun hb=>⟨hb.1,hb.2.1⟩) (fun b hb hlt=>hG b (hb.imp id fun hb=>⟨hb.1,hb.2.1⟩) hlt));rw[hlen,cellsR_len] at hT2 hfa ⊢;exact RNodeOn.mk hT2 (hfa.mono fun b hb=>hG b hb.1 hb.2)
end
open Go.RowKit
def LayPost (F:Nat→Prop) (w:World) (sb:Nat) (vL:Value) (ws:List Wr) (n:Nat) (R:Tr×List Wr×List Int) (e:Ending) (w':World):Prop:=
 ∃(p:Int) (lf:Bool) (xa:Option Addr) (xn xc:Nat) (vL':Value) (la':Option Addr) (lc':Nat),e=.returned (.agg #[.int .i64 p,.bool lf,.slice xa xn xc])∧LyIn F w' sb vL' (ws++R.2.1) la' lc' R.2.2∧Only (RS sb vL) w w'∧Turn w vL vL'∧RNodeOn (fun b=>F b∨(w.heap.size≤b∧vL'.ownBlock≠some b)) n w' [.int .i64 p,.bool lf,.slice xa xn xc] R.1
theorem row_fa {k:IntKind} {F:Nat→Prop} {S:List Nat} {w w':World} {a:Option Addr} {n c:Nat} {l:List Int} (h:Row k w a n c l) (hf:Fa F a n) (ho:Only S w w') (hS:∀b,F b→b∉S):Row k w' a n c l:=by
 obtain⟨h1,h2,h3,h4,h5⟩:=h;refine⟨h1,h2,h3,h4,?_⟩
 rcases h5 with h5|⟨b,off,e,hb,hc⟩
 ·exact .inl h5
 ·rcases hf with hf|hf
  ·exact .inl hf
  ·have:=ho.size
   exact .inr ⟨b,off,e,by omega,fun i hi=>(show w'.cell? ⟨b,off+i,none⟩=w.cell? ⟨b,off+i,none⟩ from World.cell?_of_block (ho.block (k:=b) hb (hS b (hf b off e)))).trans (hc i hi)⟩
theorem rcell_val (w:World) (key d:List UInt8) (pa:Option Addr) (pn pc:Nat) (pages:List Int) (hp:Row .i64 w pa pn pc pages) (ka:Option Addr) (kn kc:Nat) :
 Calls Tryz.prog 133 #[.bool true,.agg #[.string (strOf key),.string (strOf d),.slice pa pn pc,.slice ka kn kc]] w fun e w'=>e=.returned (.agg (ecells (entV (key,⟨d,pages⟩))).toArray)∧Below w.heap.size w w':=by
 rcases Nat.eq_zero_or_pos pn with h0|h0
 ·subst h0
  have hpg:pages=[]:=List.eq_nil_of_length_eq_zero hp.1;subst hpg;exact rcell_near w key d pa pc ka kn kc
 ·have hpg:pages≠[]:=fun e=>by have h9:=hp.1;rw[e] at h9;simp at h9;omega
  have:=rcell_far w key d pa pn pc pages _ rfl hp h0 ka kn kc;unfold entV;rw[if_neg hpg];exact this
theorem layVs_step {c:List UInt8×Tv} {r:List (List UInt8×Tv)} {s:List Int} (hc:c.2.pages=[]) :
 layVs (c::r) s=((c.1,⟨c.2.data,pvL c.2.data s⟩)::(layVs r (s.drop (needC c.2.data.length))).1,wvL c.2.data s++(layVs r (s.drop (needC c.2.data.length))).2.1,(layVs r (s.drop (needC c.2.data.length))).2.2):=by
 obtain⟨k,d,pg⟩:=c;have hpg:pg=[]:=hc;subst hpg;rw[layVs];unfold pvL wvL
 split
 ·rename_i h
  rw[h,List.drop_zero]
  rfl
 ·rfl
theorem entV_small {c:List UInt8×Tv} (h1:c.1.length≤200) (h2:c.2.data.length≤1000):(entV c).key.length≤200∧(entV c).v.data.length≤1000:=by
 unfold entV
 split
 ·exact⟨h1,h2⟩
 ·exact⟨h1,by simp⟩
theorem layVs_mem:∀{l:List (List UInt8×Tv)} {s:List Int},∀c∈(layVs l s).1,∃c'∈l,c.1=c'.1∧c.2.data=c'.2.data
 | [],s,c,h=>by simp[layVs] at h
 | x::r,s,c,h=>by
  unfold layVs at h
  split at h
  ·rcases List.mem_cons.1 h with e|h
   ·subst e;exact⟨c,by simp,rfl,rfl⟩
   ·obtain⟨c',h1,h2⟩:=layVs_mem c h;exact⟨c',List.mem_cons_of_mem _ h1,h2⟩
  ·rcases List.mem_cons.1 h with e|h
   ·subst e;exact⟨x,by simp,rfl,rfl⟩
   ·obtain⟨c',h1,h2⟩:=layVs_mem c h;exact⟨c',List.mem_cons_of_mem _ h1,h2⟩
theorem layKs_step (f:Tr→List Int→Tr×List Wr×List Int) (c:List UInt8×Tr) (r:List (List UInt8×Tr)) (s:List Int):layKs f (c::r) s=((c.1,(f c.2 s).1)::(layKs f r (f c.2 s).2.2).1,(f c.2 s).2.1++(layKs f r (f c.2 s).2.2).2.1,(layKs f r (f c.2 s).2.2).2.2):=rfl
theorem layKs_mem {f:Tr→List Int→Tr×List Wr×List Int}:∀{l:List (List UInt8×Tr)} {s:List Int},∀c∈(layKs f l s).1,∃c'∈l,c.1=c'.1
 | [],s,c,h=>by simp[layKs] at h
 | x::r,s,c,h=>by
  unfold layKs at h
  rcases List.mem_cons.1 h with e|h
  ·subst e;exact⟨x,by simp,rfl⟩
  ·obtain⟨c',h1,h2⟩:=layKs_mem c h;exact⟨c',List.mem_cons_of_mem _ h1,h2⟩
theorem layVs_many:∀(l:List (List UInt8×Tv)) (s:List Int),(layVs l s).2.1.length≤(l.map fun c=>needC c.2.data.length).sum
 | [],s=>by simp[layVs]
 | c::r,s=>by
  unfold layVs;simp only[List.map_cons,List.sum_cons]
  split
  ·have:=layVs_many r s;simp only;omega
  ·have:=layVs_many r (s.drop (needC c.2.data.length))
   simp only[List.length_append,List.length_zip,List.length_take];omega
theorem layKs_many {f:Tr→List Int→Tr×List Wr×List Int} {g:Tr→Nat} (hf:∀t s,(f t s).2.1.length≤g t):∀(l:List (List UInt8×Tr)) (s:List Int),(layKs f l s).2.1.length≤(l.map fun c=>g c.2).sum
 | [],s=>by simp[layKs]
 | c::r,s=>by
  unfold layKs;simp only[List.map_cons,List.sum_cons,List.length_append];have:=hf c.2 s;have:=layKs_many hf r (f c.2 s).2.2;omega
theorem layT_many:∀(n:Nat) (t:Tr) (s:List Int),(layT n t s).2.1.length≤freshN n t
 | 0,t,s=>by simp[layT]
 | n+1,.leaf p l,s=>by
  unfold layT freshN
  split
  ·simp
  ·have:=layVs_many l s;simp only[List.length_append,List.length_singleton];omega
 | n+1,.node p l,s=>by
  unfold layT freshN;have:=layKs_many (fun t s=>layT_many n t s) l s;simp only[List.length_append,List.length_singleton];omega
end Go.Proofs.YtpghlmcoajaiiaaGreatDoor
