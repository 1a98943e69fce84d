/- Texts that other texts of this claim lean on, one behind the other. -/
import Derived.Test.YtpghlmcoajaiiaaGreatDoorM2
import Derived.Test.YtpghlmcoajaiiaaGreatDoorM3
import Derived.Test.YtpghlmcoajaiiaaGreatDoorM4
import Derived.Test.YtpghlmcoajaiiaaGreatDoorM1
import Derived.Test.YtpghlmcoajaiiaaGreatDoorM13d
import Derived.Test.YtpghlmcoajaiiaaGreatDoorM12
import Derived.Deep.QuietTactic
import Derived.BigQuiet
import Derived.Deep.RegionHeld3
import Derived.Test.YtpghlmcoajaiiaaGreatDoorM11
import Derived.Test.YtpghlmcoajaiiaaGreatDoorM9
import Derived.Test.YtpghlmcoajaiiaaGreatDoorM8
import Derived.Deep.DeepCutAuto
set_option maxHeartbeats 20000000
set_option maxRecDepth 100000
namespace Go.Proofs.YtpghlmcoajaiiaaGreatDoor
open Go.RowKit
def wvL (d:List UInt8) (left:List Int):List Wr:=if needC d.length=0 then [] else (left.take (needC d.length)).zip (putLC d (left.take (needC d.length)))
def pvL (d:List UInt8) (left:List Int):List Int:=if needC d.length=0 then [] else left.take (needC d.length)
def LValPost (F:Nat→Prop) (w:World) (sb:Nat) (vL:Value) (ws:List Wr) (left:List Int) (d:List UInt8) (e:Ending) (w':World):Prop:=
 ∃(pa:Option Addr) (pn pc:Nat) (vL':Value) (la':Option Addr) (lc':Nat),e=.returned (.agg #[.string (strOf d),.slice pa pn pc])∧LyIn F w' sb vL' (ws++wvL d left) la' lc' (left.drop (needC d.length))∧Only (RS sb vL) w w'∧Turn w vL vL'∧Row .i64 w' pa pn pc (pvL d left)∧Fa F pa pn
theorem lvalue_any {F:Nat→Prop} {w:World} {sb:Nat} {vL:Value} {ws:List Wr} {la:Option Addr} {lc:Nat} {left:List Int} (h:LyIn F w sb vL ws la lc left) (hl:ws.length≤50000) (d:List UInt8) (hd:d.length≤100000) (pa:Option Addr) (pc:Nat) (hpa:Row .i64 w pa 0 pc []) (hn:needC d.length≤left.length) :
 Calls Tryz.prog 132 #[.pointer (some ⟨sb,0,none⟩),.agg #[.string (strOf d),.slice pa 0 pc]] w (LValPost F w sb vL ws left d):=by
 obtain⟨w1,hw1⟩:∃w1,(w.alloc (.cells #[.string (strOf d),.slice pa 0 pc] 142)).alloc (.cells #[.string ⟨#[]⟩,.slice none 0 0] 142)=w1:=⟨_,rfl⟩
 have hx1:Boxes w1 [(w.heap.size+1,[.string ⟨#[]⟩,.slice none 0 0]),(w.heap.size,[.string (strOf d),.slice pa 0 pc])]:=by
  rw[←hw1];exact((Boxes.nil w).alloc #[.string (strOf d),.slice pa 0 pc] 142 (b:=w.heap.size) rfl).alloc #[.string ⟨#[]⟩,.slice none 0 0] 142 (b:=w.heap.size+1) (by simp)
 have hb1:Below w.heap.size w w1:=by rw[←hw1];exact Below.al (Below.al (Below.refl _ _))
 have HS1:=Hd (show w1.heap.size=w.heap.size+2 by rw[←hw1];simp);have hd1:=h.below hb1;have hsb:=h.lt;have hz:=zero_refV;have v0:=hx1.cell 1 0 rfl rfl;have v1:=hx1.cell 1 1 rfl rfl;have hsz:=strOf_size d;obtain⟨N,hN⟩:∃x,needC d.length=x:=⟨_,rfl⟩
 have C:=fun W=>crneed_any (d.length:Int) W
 rw[hN] at C hn
 by_cases hN0:N=0
 ·subst hN0
  have hx2:=(hx1.put 0 (.string (strOf d)) (by intro q hq;simp at hq;subst hq;simp)).put 1 (.slice pa 0 pc) (by intro q hq;simp at hq;subst hq;simp);have z0:=hx2.cell 0 0 rfl rfl;have z1:=hx2.cell 0 1 rfl rfl;have k0:=hx1.cell 0 0 rfl rfl;have k1:=hx1.cell 0 1 rfl rfl;have f0:=hx1.frozen 0 0 rfl;have f1:=hx1.frozen 0 1 rfl;have HE:Hid (LValPost F w sb vL ws left d (.returned (.agg #[.string (strOf d),.slice pa 0 pc])) ((w1.setCell ⟨w.heap.size+1,0,none⟩ (.string (strOf d))).setCell ⟨w.heap.size+1,1,none⟩ (.slice pa 0 pc))):=Hd (by
   have hb2:Below w.heap.size w ((w1.setCell ⟨w.heap.size+1,0,none⟩ (.string (strOf d))).setCell ⟨w.heap.size+1,1,none⟩ (.slice pa 0 pc)):=(hb1.setCell (by show w.heap.size≤w.heap.size+1;omega) _).setCell (by show w.heap.size≤w.heap.size+1;omega) _;refine⟨pa,0,pc,vL,la,lc,rfl,?_,Only.of_below hb2,Turn.refl _ _,?_,.inl rfl⟩
   ·unfold wvL
    rw[if_pos hN,hN,List.append_nil,List.drop_zero];exact h.below hb2
   ·unfold pvL
    rw[if_pos hN];exact hpa.below (Nat.le_refl _) hb2)
  clear hd1 hx1 hx2 h hb1 hN hpa;go_enter Tryz.func132,Tryz.ntmps132;go_wp2_with fail;refine(C _).mono ?_;rintro e wx ⟨rfl,rfl⟩;go_wp2_with fail;refine bodyPost_ret (v:=.agg #[.string (strOf d),.slice pa 0 pc]) (by simp[results,Tryz.results132,go_sem,z0,z1]) rfl ?_;exact HE.out
 ·have q0:((N:Int) == 0)=false:=by simp;exact hN0
  have q0':(N == 0)=false:=by simp;exact hN0
  have hN4:N≤4:=by rw[←hN];exact needC_le _
  have S1:=lsome_any hd1 N hn;have HX1:=Hd hx1;have HB1:=Hd hb1;have HN:=Hd hN;have HVB:=Hd (show ∀k,vL.ownBlock=some k→sb+1≤k∧k<w.heap.size from fun k hk=>h.ge hk);have HFB:=Hd (show ∀b,F b→b<sb from h.fb);have HLA:=Hd (show Row .i64 w la left.length lc left∧∀x,la=some x→F x.block from⟨h.row,h.lf⟩);clear hd1 hx1 hb1 h hN hpa;go_enter Tryz.func132,Tryz.ntmps132;go_wp2_with fail;refine(C _).mono ?_;rintro e wx ⟨rfl,rfl⟩;go_wp2_with fail;refine S1.mono ?_;rintro e w2 ⟨rfl,la2,hy2,ho2⟩;have hs1:=HS1.out;have hs2:=ho2.size;have hrow1:Row .i64 w1 la N lc (left.take N):=(HLA.out.1.take N hn).below (Nat.le_refl _) HB1.out;have hrow2:Row .i64 w2 la N lc (left.take N):=row_only hrow1 ho2 (fun x ex=>by have:=HFB.out _ (HLA.out.2 x ex);omega);have P:=crput_any hrow2 d hd (by omega);have hx2:=HX1.out.only ho2 (by intro q hq;simp at hq;rcases hq with rfl|rfl<;>simp<;>omega);have v2:=hx2.cell 1 0 rfl rfl;obtain⟨B,hB⟩:∃x,putLC d (left.take N)=x:=⟨_,rfl⟩
  have hBl:B.length≤N:=by
   rw[←hB];unfold putLC
   split
   ·simp
    omega
   ·simp
  unfold RPutPostC at P;rw[hB] at P;have HBP:=Hd hB;have HY2:=Hd hy2;have HX2:=Hd hx2;have HROW2:=Hd hrow2;have HO2:=Hd ho2;clear hB hy2 hx2 hrow1 hrow2 ho2 S1;go_wp2_with fail;refine P.mono ?_;rintro e w3 ⟨u,rfl,hou,hb3⟩;obtain⟨ua,uc,rfl,huc,hum,_⟩:=own_slice hou;unfold maxLen at hum;have hs3:=hb3.size;have HOU:=Hd hou;have hgu:=own_ge hou;have HGU:=Hd hgu;have HX3:=Hd (HX2.out.step hb3);have HROW3:=Hd (HROW2.out.below (Nat.le_refl _) hb3);have HS:=Hd (show LyIn F w3 sb vL (ws++((left.take N).zip B).take 0) la2 (lc-N) (left.drop N) by rw[List.take_zero,List.append_nil];exact HY2.out.below hb3);have HB3:=Hd hb3;have hlcm:lc≤9223372036854775807:=by have:=HROW2.out.2.2.1;unfold maxLen at this;omega
  have hNlc:N≤lc:=HROW2.out.2.1;clear P hou hb3 hgu;go_wp2_with fail
  go_loopw [9] (fun s9 wr=>∃(i:Nat) (vi:Value),i≤B.length∧s9=.int .i64 i∧LyIn F wr sb vi (ws++((left.take N).zip B).take i) la2 (lc-N) (left.drop N)∧Only (RS sb vL) w3 wr∧Turn w3 vL vi) (fun s _=>B.length-(intOf s).toNat)
  case atStart=>exact⟨0,vL,Nat.zero_le _,rfl,HS.out,Only.refl _ _,Turn.refl _ _⟩
  case round=>
   clear HS;obtain⟨i,vi,hi,rfl,hy,ho,ht⟩:=hrel;have iw2:IntKind.i64.wrap ((i:Int)+1)=(i:Int)+1:=by simp[IntKind.wrap,IntKind.signed,IntKind.bits];omega
   have hsr:=ho.size
   by_cases hlt:i<B.length
   ·obtain⟨b,off,rfl,hbl,hc⟩:=HROW3.out.2.2.2.2.resolve_left (by omega)
    have hbF:b<sb:=HFB.out _ (HLA.out.2 _ rfl);obtain⟨x,hx⟩:∃x,(left.take N)[i]? = some x:=⟨_,List.getElem?_eq_getElem (by have:=HROW3.out.1;omega)⟩
    have k0:=hc i (by omega);rw[hx] at k0;have k0:w3.cell? ⟨b,off+i,none⟩=some (.int .i64 x):=k0;obtain⟨y,hyy⟩:∃y,B[i]? = some y:=⟨B[i],by simp⟩
    obtain⟨au,cu,e9,_,_,_,hcc⟩:=own_cells1 HOU.out;cases e9;obtain⟨g,rfl,hg,kb⟩:=hcc i (sv y) (by simp[hyy]);have hg2:w2.heap.size≤g:=HGU.out g rfl;have hnr:∀k,(k<sb∨w2.heap.size≤k)→k∉RS sb vL:=fun k hk hm=>by
     rcases RS.mem.1 hm with e|e
     ·omega
     ·have:=HVB.out k e;omega
    have m0:wr.cell? ⟨b,off+i,none⟩=some (.int .i64 x):=(World.cell?_of_block (ho.block (k:=b) hbl (hnr b (.inl hbF)))).trans k0;have m1:wr.cell? ⟨g,i,none⟩=some (.string (strOf y)):=(World.cell?_of_block (ho.block (k:=g) hg (hnr g (.inr hg2)))).trans kb;have htk:((left.take N).zip B).take (i+1)=((left.take N).zip B).take i++[(x,y)]:=List.take_succ_eq_append_of ((List.getElem?_zip_eq_some (z:=(x,y))).2 ⟨hx,hyy⟩);have hzl:(((left.take N).zip B).take i).length≤4:=by simp;omega
    have hb0:Below wr.heap.size wr wr.drew:=below_drewN (Below.refl _ _) 1;have C9:=lwrite_any (hy.below hb0) (by rw[List.length_append];omega) x y;have hnv:∀k,(k<sb∨(w2.heap.size≤k∧k<w3.heap.size))→k∉RS sb vi:=fun k hk hm=>by
     rcases RS.mem.1 hm with e|e
     ·omega
     ·have h7:=(hy.ge e).1
      rcases ht with t|t
      ·have:=HVB.out k (t ▸ e);omega
      ·have:=t k e;omega
    have cA:∀W:World,(W.cell? ⟨b,off+i,none⟩=some (.int .i64 x)∧W.cell? ⟨g,i,none⟩=some (.string (strOf y)))→W.cell? ⟨b,off+i,none⟩=some (.int .i64 x):=fun W h=>h.1
    have cB:∀W:World,(W.cell? ⟨b,off+i,none⟩=some (.int .i64 x)∧W.cell? ⟨g,i,none⟩=some (.string (strOf y)))→W.cell? ⟨g,i,none⟩=some (.string (strOf y)):=fun W h=>h.2
    have h00:wr.drew.cell? ⟨b,off+i,none⟩=some (.int .i64 x)∧wr.drew.cell? ⟨g,i,none⟩=some (.string (strOf y)):=⟨m0,m1⟩
    have hiN:i<N:=by omega
    have q1:decide ((i:Int)<(B.length:Int))=true:=decide_eq_true (by omega);have q2:decide (i<B.length)=true:=decide_eq_true hlt;have q3:decide ((i:Int)<(N:Int))=true:=decide_eq_true (by omega);have q4:decide (i<N)=true:=decide_eq_true hiN;have HO:=Hd ho;have HT:=Hd ht;have HTK:=Hd htk;have HNV:=Hd hnv;have HBL:=Hd (show b<wr.heap.size∧g<wr.heap.size from⟨by omega,by omega⟩);have HGW:=Hd (show w2.heap.size≤g∧g<w3.heap.size from⟨hg2,hg⟩);clear hy ho ht hc hx hyy kb hcc hnr htk hzl hnv hb0 m0 m1 k0;go_wp2_with fail
    go_region_held3 (fun W:World=>W.cell? ⟨b,off+i,none⟩=some (.int .i64 x)∧W.cell? ⟨g,i,none⟩=some (.string (strOf y))) (with_reducible assumption) (first|(go_at_call 136;refine C9.mono ?_;rintro e wx ⟨rfl,v4,hy4,ho4,ht4⟩;have hSx:wx.cell? ⟨b,off+i,none⟩=some (.int .i64 x)∧wx.cell? ⟨g,i,none⟩=some (.string (strOf y)):=⟨(World.cell?_of_block (ho4.block (k:=b) (by have:=HBL.out;simpa using this.1) (HNV.out b (.inl hbF)))).trans h00.1,(World.cell?_of_block (ho4.block (k:=g) (by have:=HBL.out;simpa using this.2) (HNV.out g (.inr HGW.out)))).trans h00.2⟩))
    have HY4:=Hd (show LyIn F wx sb v4 (ws++((left.take N).zip B).take (i+1)) la2 (lc-N) (left.drop N) by rw[HTK.out,←List.append_assoc];exact hy4);have HO4:=Hd (show Only (RS sb vL) w3 wx from only_next HO.out HT.out ho4);have HT4:=Hd (show Turn w3 vL v4 from HT.out.trans ht4 HO.out.size);clear C9 cA cB h00 hy4 ho4 ht4 hSx;go_wp2_with fail;go_roundw
    case rel=>exact⟨i+1,v4,hlt,by go_num,HY4.out,HO4.out,HT4.out⟩
    case measure=>simp[intOf];omega
   ·have hin:i=B.length:=by omega
    subst hin;have q1:decide ((B.length:Int)<(B.length:Int))=false:=decide_eq_false (by omega);have q2:decide (B.length<B.length)=false:=decide_eq_false hlt;have hbk:∀q∈[(w.heap.size+1,[Value.string ⟨#[]⟩,Value.slice none 0 0]),(w.heap.size,[.string (strOf d),.slice pa 0 pc])],q.1∉RS sb vL:=by
     intro q hq hm;have hq2:w.heap.size≤q.1:=by simp at hq;rcases hq with rfl|rfl<;>simp
     exact q79e41f
    have hx4:=HX3.out.only ho hbk;have f0:=hx4.frozen 0 0 rfl;have f1:=hx4.frozen 0 1 rfl;have k0:=hx4.cell 0 0 rfl rfl;have k1:=hx4.cell 0 1 rfl rfl;have v4:=hx4.cell 1 0 rfl rfl;have hx5:=(hx4.put 0 (.string (strOf d)) (by intro q hq;simp at hq;subst hq;simp)).put 1 (.slice la N lc) (by intro q hq;simp at hq;subst hq;simp);have z0:=hx5.cell 0 0 rfl rfl;have z1:=hx5.cell 0 1 rfl rfl;have HE:Hid (LValPost F w sb vL ws left d (.returned (.agg #[.string (strOf d),.slice la N lc])) ((wr.setCell ⟨w.heap.size+1,0,none⟩ (.string (strOf d))).setCell ⟨w.heap.size+1,1,none⟩ (.slice la N lc))):=Hd (by
     obtain⟨we,hwe⟩:∃x,x=((wr.setCell ⟨w.heap.size+1,0,none⟩ (.string (strOf d))).setCell ⟨w.heap.size+1,1,none⟩ (.slice la N lc)):=⟨_,rfl⟩
     rw[←hwe];have ho5:Only [w.heap.size+1] wr we:=by rw[hwe];exact((Only.refl _ _).set _ _ (by simp)).set _ _ (by simp)
     have hvi:∀k,vi.ownBlock=some k→k<w.heap.size∨w3.heap.size≤k:=fun k hk=>by
      rcases ht with t|t
      ·exact .inl (HVB.out k (t ▸ hk)).2
      ·exact .inr (t k hk)
     have hyE:=hy.only ho5 (fun k hk=>by
      have hk:k=w.heap.size+1:=by simpa using hk
      subst hk;exact⟨by omega,fun e=>by rcases hvi _ e with e|e<;>omega⟩)
     have hoA:Only (RS sb vL) w wr:=(((Only.of_below HB1.out).trans (HO2.out.mono (fun k hk=>by simp at hk;exact RS.mem.2 (.inl hk)))).trans (Only.of_below HB3.out)).trans ho;have hNN:=HN.out;have hyE2:LyIn F we sb vi (ws++wvL d left) la2 (lc-N) (left.drop (needC d.length)):=by
      unfold wvL;rw[hNN,if_neg hN0,HBP.out];rw[List.take_of_length_le (by simp;omega)] at hyE;exact hyE
     refine⟨la,N,lc,vi,la2,lc-N,rfl,hyE2,hoA.then ho5 (fun k hk=>.inr (by simp at hk;omega)),ht.from (by omega),?_,.inr fun b off e=>HLA.out.2 _ e⟩;unfold pvL;rw[hNN,if_neg hN0];have hr4:Row .i64 wr la N lc (left.take N):=by
      obtain⟨h1,h2,h3,h4,h5⟩:=HROW3.out;refine⟨h1,h2,h3,h4,h5.imp id ?_⟩;rintro⟨b,off,e,hb,hc⟩;have hbF:b<sb:=HFB.out _ (HLA.out.2 _ e);exact⟨b,off,e,by omega,fun i hi=>(World.cell?_of_block (ho.block (k:=b) hb (fun hm=>by rcases RS.mem.1 hm with e|e;omega;have:=HVB.out b e;omega))).trans (hc i hi)⟩
     exact row_at hr4 ho5.size (fun x ex=>by
      have hbF:x.block<sb:=HFB.out _ (HLA.out.2 _ ex);rw[hwe];exact(Below.heap_setCell _ _ _ x.block (fun e=>by have:x.block=w.heap.size+1:=e;omega)).trans (Below.heap_setCell _ _ _ x.block (fun e=>by have:x.block=w.heap.size+1:=e;omega))))
    clear hx4 hx5 hy ho ht hbk;go_wp2_with fail;refine bodyPost_ret (v:=.agg #[.string (strOf d),.slice la N lc]) (by simp[results,Tryz.results132,go_sem,z0,z1]) rfl ?_;exact HE.out
theorem rcell_near (w:World) (key d:List UInt8) (pa:Option Addr) (pc:Nat) (ka:Option Addr) (kn kc:Nat) :
 Calls Tryz.prog 133 #[.bool true,.agg #[.string (strOf key),.string (strOf d),.slice pa 0 pc,.slice ka kn kc]] w fun e w'=>e=.returned (.agg #[.string (strOf key),.string (strOf d),.bool false,.int .i64 0,.int .i64 0])∧Below w.heap.size w w':=by
 obtain⟨w2,hw2⟩:∃x,(w.alloc (.cells #[.string (strOf key),.string (strOf d),.slice pa 0 pc,.slice ka kn kc] 145)).alloc (.cells #[.string ⟨#[]⟩,.string ⟨#[]⟩,.bool false,.int .i64 0,.int .i64 0] 226)=x:=⟨_,rfl⟩
 have hb2:Below w.heap.size w w2:=by rw[←hw2];exact Below.al (Below.al (Below.refl _ _))
 have hx2:Boxes w2 [(w.heap.size+1,#[.string ⟨#[]⟩,.string ⟨#[]⟩,.bool false,.int .i64 0,.int .i64 0].toList),(w.heap.size,#[.string (strOf key),.string (strOf d),.slice pa 0 pc,.slice ka kn kc].toList)]:=by
  rw[←hw2];exact((Boxes.nil w).alloc #[.string (strOf key),.string (strOf d),.slice pa 0 pc,.slice ka kn kc] 145 (b:=w.heap.size) rfl).alloc #[.string ⟨#[]⟩,.string ⟨#[]⟩,.bool false,.int .i64 0,.int .i64 0] 226 (b:=w.heap.size+1) (by simp)
 have zm:=Mk.i 245096;exact q7660cc
theorem rcell_far (w:World) (key d:List UInt8) (pa:Option Addr) (pn pc:Nat) (pages:List Int) (ph:Int) (hph:pages.headD 0=ph) (hp:Row .i64 w pa pn pc pages) (h0:0<pn) (ka:Option Addr) (kn kc:Nat) :
 Calls Tryz.prog 133 #[.bool true,.agg #[.string (strOf key),.string (strOf d),.slice pa pn pc,.slice ka kn kc]] w fun e w'=>e=.returned (.agg #[.string (strOf key),.string (strOf []),.bool true,.int .i64 (d.length:Int),.int .i64 ph])∧Below w.heap.size w w':=by
 obtain⟨w2,hw2⟩:∃x,(w.alloc (.cells #[.string (strOf key),.string (strOf d),.slice pa pn pc,.slice ka kn kc] 145)).alloc (.cells #[.string ⟨#[]⟩,.string ⟨#[]⟩,.bool false,.int .i64 0,.int .i64 0] 226)=x:=⟨_,rfl⟩
 have hb2:Below w.heap.size w w2:=by rw[←hw2];exact Below.al (Below.al (Below.refl _ _))
 have hx2:Boxes w2 [(w.heap.size+1,#[.string ⟨#[]⟩,.string ⟨#[]⟩,.bool false,.int .i64 0,.int .i64 0].toList),(w.heap.size,#[.string (strOf key),.string (strOf d),.slice pa pn pc,.slice ka kn kc].toList)]:=by
  rw[←hw2];exact((Boxes.nil w).alloc #[.string (strOf key),.string (strOf d),.slice pa pn pc,.slice ka kn kc] 145 (b:=w.heap.size) rfl).alloc #[.string ⟨#[]⟩,.string ⟨#[]⟩,.bool false,.int .i64 0,.int .i64 0] 226 (b:=w.heap.size+1) (by simp)
 have zm:=Mk.i 673686;exact q7660cc
theorem rcell_kid (w:World) (key d:List UInt8) (pa:Option Addr) (pn pc:Nat) (kb ko:Nat) (page:Int) (hk:kb<w.heap.size∧w.cell? ⟨kb,ko,none⟩=some (.int .i64 page)) (kn kc:Nat) (h0:0<kn) :
 Calls Tryz.prog 133 #[.bool false,.agg #[.string (strOf key),.string (strOf d),.slice pa pn pc,.slice (some ⟨kb,ko,none⟩) kn kc]] w fun e w'=>e=.returned (.agg #[.string (strOf key),.string (strOf []),.bool false,.int .i64 0,.int .i64 page])∧Below w.heap.size w w':=by
 obtain⟨w2,hw2⟩:∃x,(w.alloc (.cells #[.string (strOf key),.string (strOf d),.slice pa pn pc,.slice (some ⟨kb,ko,none⟩) kn kc] 145)).alloc (.cells #[.string ⟨#[]⟩,.string ⟨#[]⟩,.bool false,.int .i64 0,.int .i64 0] 226)=x:=⟨_,rfl⟩
 have hb2:Below w.heap.size w w2:=by rw[←hw2];exact Below.al (Below.al (Below.refl _ _))
 have hx2:Boxes w2 [(w.heap.size+1,#[.string ⟨#[]⟩,.string ⟨#[]⟩,.bool false,.int .i64 0,.int .i64 0].toList),(w.heap.size,#[.string (strOf key),.string (strOf d),.slice pa pn pc,.slice (some ⟨kb,ko,none⟩) kn kc].toList)]:=by
  rw[←hw2];exact((Boxes.nil w).alloc #[.string (strOf key),.string (strOf d),.slice pa pn pc,.slice (some ⟨kb,ko,none⟩) kn kc] 145 (b:=w.heap.size) rfl).alloc #[.string ⟨#[]⟩,.string ⟨#[]⟩,.bool false,.int .i64 0,.int .i64 0] 226 (b:=w.heap.size+1) (by simp)
 have zm:=Mk.i 648482;exact q7660cc
open Go.RowKit
theorem rnput_any (leaf:Bool) (a:Option Addr) (len cap:Nat) (l:List En) (w:World) (h:NEnts w a len cap l) (hlen:len≤65536) (hd:SmE l) :
 Calls Tryz.prog 135 #[.agg #[.bool leaf,.slice a len cap]] w (StrPost w (putN leaf l) (putNE leaf l)):=by
 have hB:=below_one w (.cells #[.bool leaf,.slice a len cap] 221);have BX:=(Boxes.nil w).alloc #[.bool leaf,.slice a len cap] 221 rfl;have h1:=h.below (Nat.le_refl _) hB;have CK:=rcheckN_any leaf a len cap l _ h1 hlen hd;cases hn:nodeB leaf l with
 | false=>
  rw[hn] at CK;have hp:putN leaf l=[]:=by rw[putN,hn];rfl
  have he:putNE leaf l=1:=by rw[putNE,hn];rfl
  rw[hp,he];clear hp he hn;go_enter Tryz.func135,Tryz.ntmps135;go_wp2_with fail;refine CK.mono ?_;rintro e w1 ⟨rfl,hb1⟩;have hb:=below_then hB hb1;go_wp2_with fail
  go_ret2
  exact⟨rfl,hb⟩
 | true=>
  rw[hn] at CK;obtain⟨q1,q2⟩:=pack_node hn;have hlens:=cellsN_lens leaf 1000000 l (fun e he=>(hd e he).2);have hll:=h.len;rw[hll] at hlens;have CE:∀W,Below w.heap.size w W→Calls Tryz.prog 170 #[.agg #[.bool leaf,.slice a len cap]] W (OwnStrs W (cellsN leaf l)):=fun W hW=>rcells_any leaf a len cap l W (h.below (Nat.le_refl _) hW) hlen hd
  have PK:∀W a2 n2 c2,Strs W a2 n2 c2 (cellsN leaf l)→Calls Tryz.prog 169 #[.int .u8 (kindN leaf).toNat,.slice a2 n2 c2] W (StrPost W (putN leaf l) (putNE leaf l)):=fun W a2 n2 c2 h2=>by
   have hk2:n2=len:=by have:=h2.1;rw[cellsN_length,hll] at this;exact this.symm
   subst hk2;have:=rpack_any (kindN leaf) a2 n2 c2 (cellsN leaf l) W h2 (by omega)
   rwa [q1,q2] at this
  clear q1 q2 hlens hn hd hll h1;generalize putN leaf l=pn at *;generalize putNE leaf l=pe at *;generalize cellsN leaf l=cl at *;cases leaf
  all_goals
   have PK:∀W a2 n2 c2,Strs W a2 n2 c2 cl→Calls Tryz.prog 169 #[.int .u8 _,.slice a2 n2 c2] W (StrPost W pn pe):=PK;simp only[kindN,if_true,Bool.false_eq_true,if_false] at PK;go_enter Tryz.func135,Tryz.ntmps135;go_wp2_with fail;refine CK.mono ?_;rintro e w1 ⟨rfl,hb1⟩;have hb:=below_then hB hb1;have BX:=BX.step hb1;have d0:=BX.cell 0 0 rfl rfl;have d1:=BX.cell 0 1 rfl rfl;clear CK hb1 hB;go_wp2_with fail;refine(CE _ hb).mono ?_;rintro e w3 ⟨v3,rfl,ho3,hb3⟩;obtain⟨a3,k3,rfl,hs3⟩:=Strs.of_own ho3;have hb:=below_then hb hb3;clear d0 d1;go_wp2_with fail;refine(PK _ _ _ _ hs3).mono ?_;rintro e w4 ⟨rfl,hb4⟩;have hb:=below_then hb hb4;go_wp2_with fail
   go_ret2
   exact⟨rfl,hb⟩
open Go.RowKit
def LG (F:Nat→Prop) (B:Nat) (vL vC vE:Value) (b:Nat):Prop:=F b∨(B≤b∧vL.ownBlock≠some b∧vC.ownBlock≠some b∧vE.ownBlock≠some b)
structure LM (F:Nat→Prop) (w wB:World) (sb:Nat) (vL0 vb:Value) (ob mb rb n:Nat) (lf:Bool) (vL:Value) (ws:List Wr) (la:Option Addr) (lc:Nat) (left:List Int) (vC:Value) (LL:List (Cl 4)) (ys:List Rc) (vE:Value) (es:List En) (wr:World):Prop where
 box:Boxes wr [(ob,[.int .i64 0,.bool lf,vC]),(mb,[.bool lf,vE]),(rb,[.int .i64 0,.bool false,.slice none 0 0])]
 ly:LyIn F wr sb vL ws la lc left
 rc:wr.ownsRow wB.heap.size 145 4 vC LL.length (flatC LL)
 re:wr.ownsRow wB.heap.size 226 5 vE es.length (es.flatMap ecells)
 dc:∀g,vC.ownBlock=some g→vL.ownBlock≠some g
 de:∀g,vE.ownBlock=some g→vL.ownBlock≠some g
 dce:∀g,vC.ownBlock=some g→vE.ownBlock≠some g
 tl:Tells (RcOn (LG F wB.heap.size vL vC vE) n wr) LL ys
 ol:Only (RS sb vL0) w wr
 tu:Turn w vL0 vL
 tb:Turn wB vb vL
 ag:AgreeF (fun b=>b≠sb∧b≠ob∧b≠mb∧vb.ownBlock≠some b) wB wr
 bv:∀g,vb.ownBlock=some g→g≠ob∧g≠mb∧g≠rb∧g<wB.heap.size
 so:sb<w.heap.size
 ro:w.heap.size≤rb
 oo:rb<ob
 om:ob<mb
 on:mb<wB.heap.size
section
variable {F:Nat→Prop} {w wB wr w':World} {sb:Nat} {vL0 vb:Value} {ob mb rb n:Nat} {lf:Bool} {vL:Value} {ws:List Wr} {la:Option Addr} {lc:Nat} {left:List Int} {vC:Value} {LL:List (Cl 4)} {ys:List Rc} {vE:Value} {es:List En}
theorem LM.lt (h:LM F w wB sb vL0 vb ob mb rb n lf vL ws la lc left vC LL ys vE es wr):ob<wr.heap.size∧wB.heap.size≤wr.heap.size:=⟨h.box.lt 0 rfl,h.ag.1⟩
theorem LM.lgc (h:LM F w wB sb vL0 vb ob mb rb n lf vL ws la lc left vC LL ys vE es wr) {g:Nat} (hg:vC.ownBlock=some g):wB.heap.size≤g∧g<wr.heap.size:=World.ownsRow.lt h.rc g hg
theorem LM.lge (h:LM F w wB sb vL0 vb ob mb rb n lf vL ws la lc left vC LL ys vE es wr) {g:Nat} (hg:vE.ownBlock=some g):wB.heap.size≤g∧g<wr.heap.size:=World.ownsRow.lt h.re g hg
theorem LM.vne (h:LM F w wB sb vL0 vb ob mb rb n lf vL ws la lc left vC LL ys vE es wr) {g:Nat} (hg:vL.ownBlock=some g):g≠ob∧g≠mb∧g≠rb∧g<wr.heap.size:=by
 have h2:=(h.ly.ge hg).2;have:=h.on;have:=h.oo;have:=h.om
 rcases h.tb with t|t
 ·have:=h.bv g (t ▸ hg);exact⟨this.1,this.2.1,this.2.2.1,h2⟩
 ·have:=t g hg;exact⟨by omega,by omega,by omega,h2⟩
theorem LM.turn {vL':Value} {ws':List Wr} {la':Option Addr} {lc':Nat} {left':List Int} (h:LM F w wB sb vL0 vb ob mb rb n lf vL ws la lc left vC LL ys vE es wr) (hd:LyIn F w' sb vL' ws' la' lc' left') (ho:Only (RS sb vL) wr w') (ht:Turn wr vL vL'):LM F w wB sb vL0 vb ob mb rb n lf vL' ws' la' lc' left' vC LL ys vE es w':=by
 have hlt:=h.lt;have hsb:=h.so;have hro:=h.ro;have hoo:=h.oo;have hom:=h.om;have hon:=h.on;have hne:∀g,wB.heap.size≤g→vL.ownBlock≠some g→g∉RS sb vL:=fun g hg h2 hm=>by
  rcases RS.mem.1 hm with e|e
  ·omega
  ·exact h2 e
 refine⟨h.box.only ho (by
  intro q hq hm
  rcases RS.mem.1 hm with e|e
  ·simp at hq;rcases hq with rfl|rfl|rfl<;>simp at e<;>omega
  ·have:=h.vne e;simp at hq;rcases hq with rfl|rfl|rfl<;>simp at this),hd,own_only h.rc ho (fun k hk=>hne k (h.lgc hk).1 (h.dc k hk)),own_only h.re ho (fun k hk=>hne k (h.lge hk).1 (h.de k hk)),fun g hg e=>?_,fun g hg e=>?_,h.dce,?_,only_next h.ol h.tu ho,h.tu.trans ht h.ol.size,h.tb.trans ht h.ag.1,⟨Nat.le_trans h.ag.1 ho.size,fun b hb hlt2=>?_⟩,h.bv,h.so,h.ro,h.oo,h.om,h.on⟩
 ·rcases ht with t|t
  ·exact h.dc g hg (t ▸ e)
  ·have:=t g e;have:=(h.lgc hg).2;omega
 ·rcases ht with t|t
  ·exact h.de g hg (t ▸ e)
  ·have:=t g e;have:=(h.lge hg).2;omega
 ·refine h.tl.mono (fun _ _ _ hc=>rcMove hc ⟨ho.size,fun b hb hlt2=>ho.block hlt2 (fun hm=>?_)⟩ (fun b hb hlt2=>?_))
  ·rcases hb with hb|hb
   ·have:=h.ly.fb b hb
    rcases RS.mem.1 hm with e|e
    ·omega
    ·have:=(h.ly.ge e).1;omega
   ·exact hne b hb.1 hb.2.1 hm
  ·refine hb.imp id fun hb=>⟨hb.1,fun e=>?_,hb.2.2⟩
   rcases ht with t|t
   ·exact hb.2.1 (t ▸ e)
   ·have:=t b e;omega
 ·refine(ho.block (by have:=h.ag.1;omega) (fun hm=>?_)).trans (h.ag.2 b hb hlt2)
  rcases RS.mem.1 hm with e|e
  ·exact hb.1 e
  ·rcases h.tb with t|t
   ·exact hb.2.2.2 (t ▸ e)
   ·have:=t b e;omega
theorem LM.below (h:LM F w wB sb vL0 vb ob mb rb n lf vL ws la lc left vC LL ys vE es wr) (hb:Below wr.heap.size wr w'):LM F w wB sb vL0 vb ob mb rb n lf vL ws la lc left vC LL ys vE es w':=
 h.turn (h.ly.below hb) (Only.of_below hb) (Turn.refl _ _)
theorem LM.pushC (h:LM F w wB sb vL0 vb ob mb rb n lf vL ws la lc left vC LL ys vE es wr) (hl:LL.length≤1000) {x0 x1 x2 x3:Value} {y:Rc} (hone:∀u∈[x0,x1,x2,x3],u.oneCell'=true) (hy:RcOn (LG F wB.heap.size vL vC vE) n wr [x0,x1,x2,x3] y) :
 ∃a' c' w' LL',(Builtin.append_ #[25,25] 25 #[vC,.slice (some ⟨wr.heap.size,0,none⟩) 1 1]).run Tryz.prog (wr.alloc (.cells #[x0,x1,x2,x3] 145))=.ok (.slice a' (LL.length+1) c') w' ∧
  w'.cell? ⟨ob,2,none⟩=some vC∧w'.frozen? ⟨ob,2,none⟩=false∧LL'.length=LL.length+1∧LM F w wB sb vL0 vb ob mb rb n lf vL ws la lc left (.slice a' (LL.length+1) c') LL' (ys++[y]) vE es (w'.setCell ⟨ob,2,none⟩ (.slice a' (LL.length+1) c'))∧Only (ob::vC.ownBlock.toList) wr (w'.setCell ⟨ob,2,none⟩ (.slice a' (LL.length+1) c')):=by
 have hlt:=h.lt;have hsb:=h.so;have hro:=h.ro;have hoo:=h.oo;have hom:=h.om;have hon:=h.on;obtain⟨i,z,i1,i2,i3,i4,i5⟩:=info_Cr;obtain⟨v',w',hr,ho,hg,hv⟩:=run_append_new (P:=Tryz.prog) wB.heap.size 25 145 i z 4 80 Tryz.underlying25 i1 i2 i3 i4 i5 (by decide) h.rc #[x0,x1,x2,x3] rfl (by simpa using hone) (by unfold maxLen;omega) (by omega) hlt.2;obtain⟨a',c',rfl,_⟩:=own_slice ho;have hbx:=h.box.grown hg (by intro q hq e;have:=(h.lgc e).1;simp at hq;rcases hq with rfl|rfl|rfl<;>simp at this<;>omega);have hvt:Turn wr vC (.slice a' (LL.length+1) c'):=by
  exact qc0a764
 have hge:=own_ge ho;have hag:AgreeF (fun b=>vC.ownBlock≠some b∧b≠ob) wr (w'.setCell ⟨ob,2,none⟩ (.slice a' (LL.length+1) c')):=AgreeF.set ⟨hg.size,fun b hb hlt=>hg.block b hlt (fun e=>hb.1 e.symm)⟩ (.inl fun h=>h.2 rfl);have hoS:Only (ob::vC.ownBlock.toList) wr (w'.setCell ⟨ob,2,none⟩ (.slice a' (LL.length+1) c')):=(Only.of_grown hg (fun k hk=>.inl (by rw[hk];simp))).set _ _ (by simp);have hmS:∀k∈ob::vC.ownBlock.toList,k=ob∨vC.ownBlock=some k:=fun k hk=>by
  cases hvl:vC.ownBlock with
  | none=>rw[hvl] at hk;simp at hk;exact .inl hk
  | some g=>rw[hvl] at hk;simp at hk;rcases hk with rfl|rfl;exact .inl rfl;exact .inr rfl
 obtain⟨cc,hcc⟩:∃cc:Cl 4,cc.1=[x0,x1,x2,x3]:=⟨⟨_,rfl,hone⟩,rfl⟩
 have hfl:flatC (LL++[cc])=flatC LL++[x0,x1,x2,x3]:=by rw[flatC_append,←hcc];exact congrArg (flatC LL++·) (List.append_nil _)
 have hG:∀b,LG F wB.heap.size vL vC vE b→b<wr.heap.size→LG F wB.heap.size vL (.slice a' (LL.length+1) c') vE b:=fun b hb hlt2=>hb.imp id fun hb=>⟨hb.1,hb.2.1,fun e=>by
  rcases hvt with t|t
  ·exact hb.2.2.1 (t ▸ e)
  ·have:=t b e;omega,hb.2.2.2⟩
 have hA:AgreeF (LG F wB.heap.size vL vC vE) wr (w'.setCell ⟨ob,2,none⟩ (.slice a' (LL.length+1) c')):=hag.sub (fun b hb=>by
  rcases hb with hb|hb
  ·have:=h.ly.fb b hb;exact⟨fun e=>by have:=(h.lgc e).1;omega,by omega⟩
  ·exact⟨hb.2.2.1,by have:=hb.1;omega⟩)
 refine⟨a',c',w',LL++[cc],hr,hbx.cell 0 2 rfl rfl,hbx.frozen 0 2 rfl,by simp,⟨hbx.put 2 _ (by intro q hq;simp at hq;rcases hq with rfl|rfl<;>simp<;>omega),h.ly.only hoS (fun k hk=>?_),?_,own_only h.re hoS (fun k hk hm=>?_),fun g hg2 e=>?_,h.de,fun g hg2 e=>?_,?_,h.ol.then hoS (fun k hk=>.inr ?_),h.tu,h.tb,⟨Nat.le_trans h.ag.1 hag.1,fun b hb hlt2=>(hag.2 b ⟨fun e=>by have:=(h.lgc e).1;omega,hb.2.1⟩ (by omega)).trans (h.ag.2 b hb hlt2)⟩,h.bv,h.so,h.ro,h.oo,h.om,h.on⟩,hoS⟩
 ·rcases hmS k hk with rfl|hk
  ·exact⟨by omega,fun e=>(h.vne e).1 rfl⟩
  ·exact⟨by have:=(h.lgc hk).1;omega,h.dc k hk⟩
 ·rw[hfl,List.length_append]
  exact own_set ho ⟨ob,2,none⟩ _ (fun e=>by have:=hge _ e;simp at this;omega)
 ·rcases hmS k hm with rfl|hm
  ·have:=(h.lge hk).1;omega
  ·exact h.dce k hm hk
 ·rcases hvt with t|t
  ·exact h.dc g (t ▸ hg2) e
  ·have:=t g hg2;have:=(h.vne e).2.2.2;omega
 ·rcases hvt with t|t
  ·exact h.dce g (t ▸ hg2) e
  ·have:=t g hg2;have:=(h.lge e).2;omega
 ·exact(h.tl.mono (fun _ _ _ hc=>rcMove hc hA hG)).append (Tells.one (by rw[hcc];exact rcMove hy hA hG))
 ·rcases hmS k hk with rfl|hk
  ·omega
  ·have:=(h.lgc hk).1;omega
end
open Go.RowKit
section
variable {F:Nat→Prop} {w wB wr w':World} {sb:Nat} {vL0 vb:Value} {ob mb rb n:Nat} {lf:Bool} {vL:Value} {ws:List Wr} {la:Option Addr} {lc:Nat} {left:List Int} {vC:Value} {LL:List (Cl 4)} {ys:List Rc} {vE:Value} {es:List En}
theorem LM.pushE (h:LM F w wB sb vL0 vb ob mb rb n lf vL ws la lc left vC LL ys vE es wr) (hl:es.length≤1000) (e1:En) :
 ∃a' c' w',(Builtin.append_ #[219,219] 219 #[vE,.slice (some ⟨wr.heap.size,0,none⟩) 1 1]).run Tryz.prog (wr.alloc (.cells (ecells e1).toArray 226))=.ok (.slice a' (es.length+1) c') w' ∧
  w'.cell? ⟨mb,1,none⟩=some vE∧w'.frozen? ⟨mb,1,none⟩=false∧AgreeF (fun x=>vE.ownBlock≠some x∧x≠mb) wr w'∧AgreeF (fun x=>vE.ownBlock≠some x∧x≠mb) wr (w'.setCell ⟨mb,1,none⟩ (.slice a' (es.length+1) c'))∧LM F w wB sb vL0 vb ob mb rb n lf vL ws la lc left vC LL ys (.slice a' (es.length+1) c') (es++[e1]) (w'.setCell ⟨mb,1,none⟩ (.slice a' (es.length+1) c')):=by
 have hlt:=h.lt;have hsb:=h.so;have hro:=h.ro;have hoo:=h.oo;have hom:=h.om;have hon:=h.on;obtain⟨i,i1,i2,i3,i4⟩:=info_parts info_re;obtain⟨v',w',hr,ho,hg,hv⟩:=run_append_new (P:=Tryz.prog) wB.heap.size 219 226 i _ 5 56 Tryz.underlying219 i1 i2 i3 i4 rfl (by decide) h.re (ecells e1).toArray rfl (by intro u hu;simp[ecells,vcells] at hu;rcases hu with rfl|rfl|rfl|rfl|rfl<;>rfl) (by unfold maxLen;omega) (by omega) hlt.2;obtain⟨a',c',rfl,_⟩:=own_slice ho;have hbx:=h.box.grown hg (by intro q hq e;have:=(h.lge e).1;simp at hq;rcases hq with rfl|rfl|rfl<;>simp at this<;>omega);have hvt:Turn wr vE (.slice a' (es.length+1) c'):=by
  exact qc0a764
 have hge:=own_ge ho;have hag:AgreeF (fun b=>vE.ownBlock≠some b∧b≠mb) wr (w'.setCell ⟨mb,1,none⟩ (.slice a' (es.length+1) c')):=AgreeF.set ⟨hg.size,fun b hb hlt=>hg.block b hlt (fun e=>hb.1 e.symm)⟩ (.inl fun h=>h.2 rfl);have hoS:Only (mb::vE.ownBlock.toList) wr (w'.setCell ⟨mb,1,none⟩ (.slice a' (es.length+1) c')):=(Only.of_grown hg (fun k hk=>.inl (by rw[hk];simp))).set _ _ (by simp);have hmS:∀k∈mb::vE.ownBlock.toList,k=mb∨vE.ownBlock=some k:=fun k hk=>by
  cases hvl:vE.ownBlock with
  | none=>rw[hvl] at hk;simp at hk;exact .inl hk
  | some g=>rw[hvl] at hk;simp at hk;rcases hk with rfl|rfl;exact .inl rfl;exact .inr rfl
 have hG:∀b,LG F wB.heap.size vL vC vE b→b<wr.heap.size→LG F wB.heap.size vL vC (.slice a' (es.length+1) c') b:=fun b hb hlt2=>hb.imp id fun hb=>⟨hb.1,hb.2.1,hb.2.2.1,fun e=>by
  rcases hvt with t|t
  ·exact hb.2.2.2 (t ▸ e)
  ·have:=t b e;omega⟩
 have hA:AgreeF (LG F wB.heap.size vL vC vE) wr (w'.setCell ⟨mb,1,none⟩ (.slice a' (es.length+1) c')):=hag.sub (fun b hb=>by
  rcases hb with hb|hb
  ·have:=h.ly.fb b hb;exact⟨fun e=>by have:=(h.lge e).1;omega,by omega⟩
  ·exact⟨hb.2.2.2,by have:=hb.1;omega⟩)
 have hbm:Boxes w' [(mb,[.bool lf,vE]),(ob,[.int .i64 0,.bool lf,vC]),(rb,[.int .i64 0,.bool false,.slice none 0 0])]:=hbx.sub (by intro q hq;simp at hq ⊢;rcases hq with rfl|rfl|rfl<;>simp);refine⟨a',c',w',hr,hbm.cell 0 1 rfl rfl,hbm.frozen 0 1 rfl,⟨hg.size,fun b hb hlt=>hg.block b hlt (fun e=>hb.1 e.symm)⟩,hag,⟨(hbm.put 1 (.slice a' (es.length+1) c') (by intro q hq;simp at hq;rcases hq with rfl|rfl<;>simp<;>omega)).sub (by intro q hq;simp at hq ⊢;rcases hq with rfl|rfl|rfl<;>simp),h.ly.only hoS (fun k hk=>?_),own_only h.rc hoS (fun k hk hm=>?_),?_,h.dc,fun g hg2 e=>?_,fun g hg2 e=>?_,?_,h.ol.then hoS (fun k hk=>.inr ?_),h.tu,h.tb,⟨Nat.le_trans h.ag.1 hag.1,fun b hb hlt2=>(hag.2 b ⟨fun e=>by have:=(h.lge e).1;omega,hb.2.2.1⟩ (by omega)).trans (h.ag.2 b hb hlt2)⟩,h.bv,h.so,h.ro,h.oo,h.om,h.on⟩⟩
 ·rcases hmS k hk with rfl|hk
  ·exact⟨by omega,fun e=>(h.vne e).2.1 rfl⟩
  ·exact⟨by have:=(h.lge hk).1;omega,h.de k hk⟩
 ·rcases hmS k hm with rfl|hm
  ·have:=(h.lgc hk).1;omega
  ·exact h.dce k hk hm
 ·rw[List.length_append,List.flatMap_append]
  have e9:es.flatMap ecells++List.flatMap ecells [e1]=es.flatMap ecells++(ecells e1).toArray.toList:=by simp
  rw[e9];exact own_set ho ⟨mb,1,none⟩ _ (fun e=>by have:=hge _ e;simp at this;omega)
 ·rcases hvt with t|t
  ·exact h.de g (t ▸ hg2) e
  ·have:=t g hg2;have:=(h.vne e).2.2.2;omega
 ·rcases hvt with t|t
  ·exact h.dce g hg2 (t ▸ e)
  ·have:=t g e;have:=(h.lgc hg2).2;omega
 ·exact h.tl.mono (fun _ _ _ hc=>rcMove hc hA hG)
 ·rcases hmS k hk with rfl|hk
  ·omega
  ·have:=(h.lge hk).1;omega
theorem LM.node {t:Tr} {G:Nat→Prop} (h:LM F w wB sb vL0 vb ob mb rb n lf vL ws la lc left vC LL (cellsR t) vE es wr) (ha:AgreeF (fun b=>F b∨(wB.heap.size≤b∧vL.ownBlock≠some b)) wr w') (hG:∀b,(F b∨(wB.heap.size≤b∧vL.ownBlock≠some b))→b<wr.heap.size→G b):RNodeOn G (n+1) w' [.int .i64 t.page,.bool t.isLeaf,vC] t:=by
 have ht:=h.tl;have hlen:LL.length=(cellsR t).length:=ht.1;obtain⟨a',c',rfl,hr⟩:=Raw.of_own h.rc rfl;have hT:=(hr.tab ht)
 have hfa:Fa (fun b=>(F b∨(wB.heap.size≤b∧vL.ownBlock≠some b))∧b<wr.heap.size) a' LL.length:=by
  rcases Nat.eq_zero_or_pos LL.length with h0|h0
  ·exact .inl h0
  ·refine .inr fun b off e=>?_
   subst e;exact⟨.inr ⟨(h.lgc rfl).1,h.dc b rfl⟩,(h.lgc rfl).2⟩
 have hT2:=TabR.agree (F:=fun b=>(F b∨(wB.heap.size≤b∧vL.ownBlock≠some b))∧b<wr.heap.size) hT hfa (ha.sub fun b hb=>hb.1) (R':=RcOn G n w') (fun cs y _ hc=>rcMove hc (ha.sub fun b hb=>hb.imp id fun hb=>⟨hb.1,hb.2.1⟩) (fun b hb hlt=>hG b (hb.imp id fun hb=>⟨hb.1,hb.2.1⟩) hlt));rw[hlen,cellsR_len] at hT2 hfa ⊢;exact RNodeOn.mk hT2 (hfa.mono fun b hb=>hG b hb.1 hb.2)
end
open Go.RowKit
def LayPost (F:Nat→Prop) (w:World) (sb:Nat) (vL:Value) (ws:List Wr) (n:Nat) (R:Tr×List Wr×List Int) (e:Ending) (w':World):Prop:=
 ∃(p:Int) (lf:Bool) (xa:Option Addr) (xn xc:Nat) (vL':Value) (la':Option Addr) (lc':Nat),e=.returned (.agg #[.int .i64 p,.bool lf,.slice xa xn xc])∧LyIn F w' sb vL' (ws++R.2.1) la' lc' R.2.2∧Only (RS sb vL) w w'∧Turn w vL vL'∧RNodeOn (fun b=>F b∨(w.heap.size≤b∧vL'.ownBlock≠some b)) n w' [.int .i64 p,.bool lf,.slice xa xn xc] R.1
theorem row_fa {k:IntKind} {F:Nat→Prop} {S:List Nat} {w w':World} {a:Option Addr} {n c:Nat} {l:List Int} (h:Row k w a n c l) (hf:Fa F a n) (ho:Only S w w') (hS:∀b,F b→b∉S):Row k w' a n c l:=by
 obtain⟨h1,h2,h3,h4,h5⟩:=h;refine⟨h1,h2,h3,h4,?_⟩
 rcases h5 with h5|⟨b,off,e,hb,hc⟩
 ·exact .inl h5
 ·rcases hf with hf|hf
  ·exact .inl hf
  ·have:=ho.size
   exact .inr ⟨b,off,e,by omega,fun i hi=>(show w'.cell? ⟨b,off+i,none⟩=w.cell? ⟨b,off+i,none⟩ from World.cell?_of_block (ho.block (k:=b) hb (hS b (hf b off e)))).trans (hc i hi)⟩
theorem rcell_val (w:World) (key d:List UInt8) (pa:Option Addr) (pn pc:Nat) (pages:List Int) (hp:Row .i64 w pa pn pc pages) (ka:Option Addr) (kn kc:Nat) :
 Calls Tryz.prog 133 #[.bool true,.agg #[.string (strOf key),.string (strOf d),.slice pa pn pc,.slice ka kn kc]] w fun e w'=>e=.returned (.agg (ecells (entV (key,⟨d,pages⟩))).toArray)∧Below w.heap.size w w':=by
 rcases Nat.eq_zero_or_pos pn with h0|h0
 ·subst h0
  have hpg:pages=[]:=List.eq_nil_of_length_eq_zero hp.1;subst hpg;exact rcell_near w key d pa pc ka kn kc
 ·have hpg:pages≠[]:=fun e=>by have h9:=hp.1;rw[e] at h9;simp at h9;omega
  have:=rcell_far w key d pa pn pc pages _ rfl hp h0 ka kn kc;unfold entV;rw[if_neg hpg];exact this
theorem layVs_step {c:List UInt8×Tv} {r:List (List UInt8×Tv)} {s:List Int} (hc:c.2.pages=[]) :
 layVs (c::r) s=((c.1,⟨c.2.data,pvL c.2.data s⟩)::(layVs r (s.drop (needC c.2.data.length))).1,wvL c.2.data s++(layVs r (s.drop (needC c.2.data.length))).2.1,(layVs r (s.drop (needC c.2.data.length))).2.2):=by
 obtain⟨k,d,pg⟩:=c;have hpg:pg=[]:=hc;subst hpg;rw[layVs];unfold pvL wvL
 split
 ·rename_i h
  rw[h,List.drop_zero]
  rfl
 ·rfl
theorem entV_small {c:List UInt8×Tv} (h1:c.1.length≤200) (h2:c.2.data.length≤1000):(entV c).key.length≤200∧(entV c).v.data.length≤1000:=by
 unfold entV
 split
 ·exact⟨h1,h2⟩
 ·exact⟨h1,by simp⟩
theorem layVs_mem:∀{l:List (List UInt8×Tv)} {s:List Int},∀c∈(layVs l s).1,∃c'∈l,c.1=c'.1∧c.2.data=c'.2.data
 | [],s,c,h=>by simp[layVs] at h
 | x::r,s,c,h=>by
  unfold layVs at h
  split at h
  ·rcases List.mem_cons.1 h with e|h
   ·subst e;exact⟨c,by simp,rfl,rfl⟩
   ·obtain⟨c',h1,h2⟩:=layVs_mem c h;exact⟨c',List.mem_cons_of_mem _ h1,h2⟩
  ·rcases List.mem_cons.1 h with e|h
   ·subst e;exact⟨x,by simp,rfl,rfl⟩
   ·obtain⟨c',h1,h2⟩:=layVs_mem c h;exact⟨c',List.mem_cons_of_mem _ h1,h2⟩
theorem layKs_step (f:Tr→List Int→Tr×List Wr×List Int) (c:List UInt8×Tr) (r:List (List UInt8×Tr)) (s:List Int):layKs f (c::r) s=((c.1,(f c.2 s).1)::(layKs f r (f c.2 s).2.2).1,(f c.2 s).2.1++(layKs f r (f c.2 s).2.2).2.1,(layKs f r (f c.2 s).2.2).2.2):=rfl
theorem layKs_mem {f:Tr→List Int→Tr×List Wr×List Int}:∀{l:List (List UInt8×Tr)} {s:List Int},∀c∈(layKs f l s).1,∃c'∈l,c.1=c'.1
 | [],s,c,h=>by simp[layKs] at h
 | x::r,s,c,h=>by
  unfold layKs at h
  rcases List.mem_cons.1 h with e|h
  ·subst e;exact⟨x,by simp,rfl⟩
  ·obtain⟨c',h1,h2⟩:=layKs_mem c h;exact⟨c',List.mem_cons_of_mem _ h1,h2⟩
theorem layVs_many:∀(l:List (List UInt8×Tv)) (s:List Int),(layVs l s).2.1.length≤(l.map fun c=>needC c.2.data.length).sum
 | [],s=>by simp[layVs]
 | c::r,s=>by
  unfold layVs;simp only[List.map_cons,List.sum_cons]
  split
  ·have:=layVs_many r s;simp only;omega
  ·have:=layVs_many r (s.drop (needC c.2.data.length))
   simp only[List.length_append,List.length_zip,List.length_take];omega
theorem layKs_many {f:Tr→List Int→Tr×List Wr×List Int} {g:Tr→Nat} (hf:∀t s,(f t s).2.1.length≤g t):∀(l:List (List UInt8×Tr)) (s:List Int),(layKs f l s).2.1.length≤(l.map fun c=>g c.2).sum
 | [],s=>by simp[layKs]
 | c::r,s=>by
  unfold layKs;simp only[List.map_cons,List.sum_cons,List.length_append];have:=hf c.2 s;have:=layKs_many hf r (f c.2 s).2.2;omega
theorem layT_many:∀(n:Nat) (t:Tr) (s:List Int),(layT n t s).2.1.length≤freshN n t
 | 0,t,s=>by simp[layT]
 | n+1,.leaf p l,s=>by
  unfold layT freshN
  split
  ·simp
  ·have:=layVs_many l s;simp only[List.length_append,List.length_singleton];omega
 | n+1,.node p l,s=>by
  unfold layT freshN;have:=layKs_many (fun t s=>layT_many n t s) l s;simp only[List.length_append,List.length_singleton];omega
open Go.RowKit
theorem lay_leaf {n:Nat} {F G:Nat→Prop} {w:World} {sb:Nat} {vL:Value} {ws:List Wr} {la:Option Addr} {lc:Nat} {left:List Int} {cs:List Value} {l:List (List UInt8×Tv)} (hy:LyIn F w sb vL ws la lc left) (h:RNodeOn G (n+1) w cs (.leaf 0 l)) (hG:∀b,G b→b<w.heap.size∧b≠sb∧vL.ownBlock≠some b) (hB:Bare (.leaf 0 l)) (hb:Bnd (n+1) (.leaf 0 l)) (hf:freshN (n+1) (.leaf 0 l)≤left.length) (hws:ws.length+freshN (n+1) (.leaf 0 l)≤40000) (hl0:l≠[]) :
 Calls Tryz.prog 91 #[.pointer (some ⟨sb,0,none⟩),.agg cs.toArray] w (LayPost F w sb vL ws (n+1) (layT (n+1) (.leaf 0 l) left)):=by
 obtain⟨_,hv⟩:=bare_vals hB;obtain⟨a,c,rfl,h1,hfa⟩:=h.at;have hbl:l.length≤1000:=hb.1;have hbk:=hb.2;have hcn:cntT (.leaf 0 l)=l.length:=rfl;rw[hcn] at h1 hfa;obtain⟨wB,hwB⟩:∃x,x=(((w.alloc (.cells #[.int .i64 0,.bool true,.slice a l.length c] 27)).alloc (.cells #[.int .i64 0,.bool false,.slice none 0 0] 27)).alloc (.cells #[.int .i64 0,.bool true,.slice none 0 0] 27)).alloc (.cells #[.bool true,.slice none 0 0] 221):=⟨_,rfl⟩
 have hbB:Below w.heap.size w wB:=by rw[hwB];exact Below.al (Below.al (Below.al (Below.al (Below.refl _ _))))
 have hsB:wB.heap.size=w.heap.size+4:=by rw[hwB];simp
 have hxB:Boxes wB [(w.heap.size+1+1+1,[.bool true,.slice none 0 0]),(w.heap.size+1+1,[.int .i64 0,.bool true,.slice none 0 0]),(w.heap.size+1,[.int .i64 0,.bool false,.slice none 0 0]),(w.heap.size,[.int .i64 0,.bool true,.slice a l.length c])]:=by
  rw[hwB];exact((((Boxes.nil w).alloc #[.int .i64 0,.bool true,.slice a l.length c] 27 (b:=w.heap.size) rfl).alloc #[.int .i64 0,.bool false,.slice none 0 0] 27 (b:=w.heap.size+1) (by simp)).alloc #[.int .i64 0,.bool true,.slice none 0 0] 27 (b:=w.heap.size+1+1) (by simp)).alloc #[.bool true,.slice none 0 0] 221 (b:=w.heap.size+1+1+1) (by simp)
 have hsb:=hy.lt;have hvg:∀g,vL.ownBlock=some g→sb+1≤g∧g<w.heap.size:=fun g hg=>hy.ge hg
 have hLM:LM F w wB sb vL vL (w.heap.size+1+1) (w.heap.size+1+1+1) (w.heap.size+1) n true vL ws la lc left (.slice none 0 0) [] [] (.slice none 0 0) [] wB:=
  ⟨hxB.sub (by intro q hq;simp at hq ⊢;rcases hq with rfl|rfl|rfl<;>simp),hy.below hbB,own_nil wB _ 4 _,own_nil wB _ 5 _,fun g hg=>(by cases hg),fun g hg=>(by cases hg),fun g hg=>(by cases hg),Tells.nil,Only.of_below hbB,Turn.refl _ _,Turn.refl _ _,AgreeF.refl _,fun g hg=>by have:=(hvg g hg).2;omega,hsb,by omega,by omega,by omega,by omega⟩
 have zm:=Mk.i 585870;exact q9f992a
theorem lay_node {n:Nat} {F G:Nat→Prop} {sb:Nat} (IH:∀{w:World} {vL:Value} {ws:List Wr} {la:Option Addr} {lc:Nat} {left:List Int} {cs:List Value} {t:Tr},LyIn F w sb vL ws la lc left→RNodeOn G n w cs t→(∀b,G b→b<w.heap.size∧b≠sb∧vL.ownBlock≠some b)→Bare t→Bnd n t→freshN n t≤left.length→ws.length+freshN n t≤40000→Calls Tryz.prog 91 #[.pointer (some ⟨sb,0,none⟩),.agg cs.toArray] w (LayPost F w sb vL ws n (layT n t left))) {w:World} {vL:Value} {ws:List Wr} {la:Option Addr} {lc:Nat} {left:List Int} {cs:List Value} {l:List (List UInt8×Tr)} (hy:LyIn F w sb vL ws la lc left) (h:RNodeOn G (n+1) w cs (.node 0 l)) (hG:∀b,G b→b<w.heap.size∧b≠sb∧vL.ownBlock≠some b) (hB:Bare (.node 0 l)) (hb:Bnd (n+1) (.node 0 l)) (hf:freshN (n+1) (.node 0 l)≤left.length) (hws:ws.length+freshN (n+1) (.node 0 l)≤40000) :
 Calls Tryz.prog 91 #[.pointer (some ⟨sb,0,none⟩),.agg cs.toArray] w (LayPost F w sb vL ws (n+1) (layT (n+1) (.node 0 l) left)):=by
 obtain⟨_,hv⟩:=bare_kids hB;obtain⟨a,c,rfl,h1,hfa⟩:=h.at;have hbl:l.length≤1000:=hb.1;have hbk:=hb.2;have hcn:cntT (.node 0 l)=l.length:=rfl;rw[hcn] at h1 hfa;obtain⟨wB,hwB⟩:∃x,x=(((w.alloc (.cells #[.int .i64 0,.bool false,.slice a l.length c] 27)).alloc (.cells #[.int .i64 0,.bool false,.slice none 0 0] 27)).alloc (.cells #[.int .i64 0,.bool false,.slice none 0 0] 27)).alloc (.cells #[.bool false,.slice none 0 0] 221):=⟨_,rfl⟩
 have hbB:Below w.heap.size w wB:=by rw[hwB];exact Below.al (Below.al (Below.al (Below.al (Below.refl _ _))))
 have hsB:wB.heap.size=w.heap.size+4:=by rw[hwB];simp
 have hxB:Boxes wB [(w.heap.size+1+1+1,[.bool false,.slice none 0 0]),(w.heap.size+1+1,[.int .i64 0,.bool false,.slice none 0 0]),(w.heap.size+1,[.int .i64 0,.bool false,.slice none 0 0]),(w.heap.size,[.int .i64 0,.bool false,.slice a l.length c])]:=by
  rw[hwB];exact((((Boxes.nil w).alloc #[.int .i64 0,.bool false,.slice a l.length c] 27 (b:=w.heap.size) rfl).alloc #[.int .i64 0,.bool false,.slice none 0 0] 27 (b:=w.heap.size+1) (by simp)).alloc #[.int .i64 0,.bool false,.slice none 0 0] 27 (b:=w.heap.size+1+1) (by simp)).alloc #[.bool false,.slice none 0 0] 221 (b:=w.heap.size+1+1+1) (by simp)
 have hsb:=hy.lt;have hvg:∀g,vL.ownBlock=some g→sb+1≤g∧g<w.heap.size:=fun g hg=>hy.ge hg
 have hLM:LM F w wB sb vL vL (w.heap.size+1+1) (w.heap.size+1+1+1) (w.heap.size+1) n false vL ws la lc left (.slice none 0 0) [] [] (.slice none 0 0) [] wB:=
  ⟨hxB.sub (by intro q hq;simp at hq ⊢;rcases hq with rfl|rfl|rfl<;>simp),hy.below hbB,own_nil wB _ 4 _,own_nil wB _ 5 _,fun g hg=>(by cases hg),fun g hg=>(by cases hg),fun g hg=>(by cases hg),Tells.nil,Only.of_below hbB,Turn.refl _ _,Turn.refl _ _,AgreeF.refl _,fun g hg=>by have:=(hvg g hg).2;omega,hsb,by omega,by omega,by omega,by omega⟩
 have zm:=Mk.i 281300;exact q9f992a
theorem lay_empty {n:Nat} {F G:Nat→Prop} {w:World} {sb:Nat} {vL:Value} {ws:List Wr} {la:Option Addr} {lc:Nat} {left:List Int} {cs:List Value} (hy:LyIn F w sb vL ws la lc left) (h:RNodeOn G (n+1) w cs (.leaf 0 [])) :
 Calls Tryz.prog 91 #[.pointer (some ⟨sb,0,none⟩),.agg cs.toArray] w (LayPost F w sb vL ws (n+1) (layT (n+1) (.leaf 0 []) left)):=by
 obtain⟨a,c,rfl,h1,_⟩:=h.at;have hcn:cntT (.leaf 0 [])=0:=rfl;rw[hcn] at h1;obtain⟨wB,hwB⟩:∃x,(w.alloc (.cells #[.int .i64 0,.bool true,.slice a 0 c] 27)).alloc (.cells #[.int .i64 0,.bool false,.slice none 0 0] 27)=x:=⟨_,rfl⟩
 have hbB:Below w.heap.size w wB:=by rw[←hwB];exact Below.al (Below.al (Below.refl _ _))
 have hxB:Boxes wB [(w.heap.size+1,[.int .i64 0,.bool false,.slice none 0 0]),(w.heap.size,[.int .i64 0,.bool true,.slice a 0 c])]:=by
  rw[←hwB];exact((Boxes.nil w).alloc #[.int .i64 0,.bool true,.slice a 0 c] 27 (b:=w.heap.size) rfl).alloc #[.int .i64 0,.bool false,.slice none 0 0] 27 (b:=w.heap.size+1) (by simp)
 have c0:=hxB.cell 1 0 rfl rfl;have c1:=hxB.cell 1 1 rfl rfl;have c2:=hxB.cell 1 2 rfl rfl;have m0:=hxB.cell 0 0 rfl rfl;have m1:=hxB.cell 0 1 rfl rfl;have m2:=hxB.cell 0 2 rfl rfl;have u0:=hxB.frozen 0 0 rfl;have u1:=hxB.frozen 0 1 rfl;have u2:=hxB.frozen 0 2 rfl;have hxr:Boxes wB [(w.heap.size+1,[.int .i64 0,.bool false,.slice none 0 0])]:=hxB.sub (by intro q hq;simp at hq ⊢;exact .inl hq);obtain⟨we,hwe⟩:∃x,x=st3 wB (w.heap.size+1) (.int .i64 0) (.bool true) (.slice a 0 c):=⟨_,rfl⟩
 have hxe:=st3_box hxr (.int .i64 0) (.bool true) (.slice a 0 c);rw[←hwe] at hxe;have z0:=hxe.cell 0 0 rfl rfl;have z1:=hxe.cell 0 1 rfl rfl;have z2:=hxe.cell 0 2 rfl rfl;have HE:Hid (LayPost F w sb vL ws (n+1) (layT (n+1) (.leaf 0 []) left) (.returned (.agg #[.int .i64 0,.bool true,.slice a 0 c])) we):=Hd (by
  have hoe:Only [w.heap.size+1] wB we:=by rw[hwe];exact st3_only _ _ _ _ _
  have hbe:Below w.heap.size w we:=hbB.trans (hoe.below hbB.size (by simp));refine⟨0,true,a,0,c,vL,la,lc,rfl,?_,Only.of_below hbe,Turn.refl _ _,?_⟩
  ·show LyIn F we sb vL (ws++[]) la lc left
   rw[List.append_nil];exact hy.below hbe
  ·exact RNodeOn.mk (t:=.leaf 0 []) ⟨rfl,h1.2.1,h1.2.2.1,h1.2.2.2.1,.inl rfl⟩ (.inl rfl))
 have hz:=zero_refN;show Calls _ _ #[.pointer (some ⟨sb,0,none⟩),.agg #[.int .i64 0,.bool true,.slice a 0 c]] _ _;clear h h1 hbB hxB hxr hxe hy hcn;go_enter Tryz.func91,Tryz.ntmps91;go_wp2_with fail;change bodyPost Tryz.prog _ _ _ _ (st3 wB (w.heap.size+1) (.int .i64 0) (.bool true) (.slice a 0 c));rw[←hwe];refine bodyPost_ret (v:=.agg #[.int .i64 0,.bool true,.slice a 0 c]) (by simp[results,Tryz.results91,go_sem,z0,z1,z2]) rfl ?_;exact HE.out
theorem lay_any:∀(n:Nat) {F G:Nat→Prop} {w:World} {sb:Nat} {vL:Value} {ws:List Wr} {la:Option Addr} {lc:Nat} {left:List Int} {cs:List Value} {t:Tr},LyIn F w sb vL ws la lc left→RNodeOn G n w cs t→(∀b,G b→b<w.heap.size∧b≠sb∧vL.ownBlock≠some b)→Bare t→Bnd n t→freshN n t≤left.length→ws.length+freshN n t≤40000→Calls Tryz.prog 91 #[.pointer (some ⟨sb,0,none⟩),.agg cs.toArray] w (LayPost F w sb vL ws n (layT n t left))
 | 0,_,_,_,_,_,_,_,_,_,_,_,_,h,_,_,_,_,_=>h.elim
 | n+1,_,_,_,_,_,_,_,_,_,_,.leaf p l,hy,h,hG,hB,hb,hf,hws=>by
  obtain⟨rfl,_⟩:=bare_vals hB
  by_cases hl0:l=[]
  ·subst hl0;exact lay_empty hy h
  ·exact lay_leaf hy h hG hB hb hf hws hl0
 | n+1,_,_,_,_,_,_,_,_,_,_,.node p l,hy,h,hG,hB,hb,hf,hws=>by
  obtain⟨rfl,_⟩:=bare_kids hB;exact lay_node (fun hy h hG hB hb hf hws=>lay_any n hy h hG hB hb hf hws) hy h hG hB hb hf hws
open Go.RowKit
def LayTo (F:Nat→Prop) (w:World) (n:Nat) (R:Tr×List Wr×List Int) (e:Ending) (w':World):Prop:=
 ∃(p:Int) (lf:Bool) (xa:Option Addr) (xn xc:Nat) (vW vX:Value),e=.returned (.tuple #[.agg #[.int .i64 p,.bool lf,.slice xa xn xc],vW,vX,.bool true])∧RNodeOn (fun b=>F b∨w.heap.size≤b) n w' [.int .i64 p,.bool lf,.slice xa xn xc] R.1∧w'.ownsRow w.heap.size 41 2 vW R.2.1.length (R.2.1.flatMap wcl)∧Below w.heap.size w w'
theorem Lay_any {n:Nat} {F G:Nat→Prop} {w:World} {cs:List Value} {t:Tr} (h:RNodeOn G n w cs t) (hG:∀b,G b→b<w.heap.size) (hB:Bare t) (hb:Bnd n t) (hn:n≤1000) (hc:checkT n t=true) {a:Option Addr} {m cap:Nat} {at_:List Int} (hat:Row .i64 w a m cap at_) (hab:∀x,a=some x→F x.block) (hF:∀b,F b→b<w.heap.size) (hr:Rises at_) (hm:m≤10000) (hp:∀p∈at_,2≤p∧p≤999) (hf:freshN n t≤m) :
 Calls Tryz.prog 44 #[.agg cs.toArray,.slice a m cap] w (LayTo F w n (layT n t at_)):=by
 obtain⟨xa,xn,xc,rfl⟩:=RNodeOn.open_pos h;have hlm:at_.length=m:=hat.1;obtain⟨tp,htp⟩:∃x,t.page=x:=⟨_,rfl⟩
 obtain⟨tl,htl⟩:∃x,t.isLeaf=x:=⟨_,rfl⟩
 rw[htp,htl] at h ⊢;obtain⟨w1,hw1⟩:∃x,(w.alloc (.cells #[.int .i64 tp,.bool tl,.slice xa xn xc] 27)).alloc (.cells #[.int .i64 0,.bool false,.slice none 0 0] 27)=x:=⟨_,rfl⟩
 have hb1:Below w.heap.size w w1:=by rw[←hw1];exact Below.al (Below.al (Below.refl _ _))
 have hx1:Boxes w1 [(w.heap.size+1,[.int .i64 0,.bool false,.slice none 0 0]),(w.heap.size,[.int .i64 tp,.bool tl,.slice xa xn xc])]:=by
  rw[←hw1];exact((Boxes.nil w).alloc #[.int .i64 tp,.bool tl,.slice xa xn xc] 27 (b:=w.heap.size) rfl).alloc #[.int .i64 0,.bool false,.slice none 0 0] 27 (b:=w.heap.size+1) (by simp)
 have hs1:w1.heap.size=w.heap.size+2:=by rw[←hw1];simp
 have CM:=rmay_any (h.agree (AgreeF.of_below hb1)) hB hb hn hc (hat.below (Nat.le_refl _) hb1) hr hm hp hf;have c0:=hx1.cell 1 0 rfl rfl;have c1:=hx1.cell 1 1 rfl rfl;have c2:=hx1.cell 1 2 rfl rfl;have hz:=zero_refN;have HX1:=Hd hx1;have HB1:=Hd hb1;have HS1:=Hd hs1;have H:=Hd h;have HBR:=Hd hB;have HBD:=Hd hb;have HAT:=Hd hat;have HLM:=Hd hlm;have HG:=Hd hG;have HF:=Hd (And.intro hab hF);have HFR:=Hd hf;clear hx1 hb1 hs1 h hB hb hat hlm hG hab hF hf hr hp hc htp htl;go_enter Tryz.func44,Tryz.ntmps44;go_wp2_with fail;refine CM.mono ?_;rintro e w2 ⟨rfl,hb2⟩;have hx2:=HX1.out.step hb2;obtain⟨w3,hw3⟩:∃x,w2.alloc (.cells #[.slice none 0 0,.slice a m cap] 197)=x:=⟨_,rfl⟩
 have hb23:Below w2.heap.size w2 w3:=by rw[←hw3];exact Below.al (Below.refl _ _)
 have hxs:Boxes w3 [(w2.heap.size,[.slice none 0 0,.slice a m cap])]:=by rw[←hw3];exact(Boxes.nil w2).alloc #[.slice none 0 0,.slice a m cap] 197 rfl
 have hs3:w3.heap.size=w2.heap.size+1:=by rw[←hw3];simp
 have hx3:=hx2.step hb23;have hs2:=hb2.size;have hs1:=HS1.out;have hb3:Below w.heap.size w w3:=(HB1.out.trans (hb2.mono HB1.out.size)).trans (hb23.mono (by omega));have hly:LyIn F w3 w2.heap.size (.slice none 0 0) [] a cap at_:=
  ⟨by rw[HLM.out];exact hxs,own_nil w3 _ 2 _,by rw[HLM.out];exact HAT.out.below (Nat.le_refl _) hb3,HF.out.1,fun b hb=>by have:=HF.out.2 b hb;omega⟩
 have CL:=lay_any n hly (H.out.agree (AgreeF.of_below hb3)) (fun b hb=>⟨by have:=HG.out b hb;omega,by have:=HG.out b hb;omega,by simp[Value.ownBlock]⟩) HBR.out HBD.out (by rw[HLM.out];exact HFR.out) (by have:=HFR.out;simp;omega);have d0:=hx3.cell 1 0 rfl rfl;have d1:=hx3.cell 1 1 rfl rfl;have d2:=hx3.cell 1 2 rfl rfl;have HX3:=Hd hx3;have HB3:=Hd hb3;have HS3:=Hd hs3;clear hx2 hx3 hxs hb23 hb2 hb3 hly hs3 CM;go_wp2_with fail;refine CL.mono ?_;rintro e w4 ⟨p,lf,ya,yn,yc,vL',la',lc',rfl,hy4,ho4,ht4,hn4⟩;obtain⟨R,hR⟩:∃x,layT n t at_=x:=⟨_,rfl⟩
 rw[hR,List.nil_append] at hy4;rw[hR] at hn4;have hs4:=ho4.size;have hs3:=HS3.out;have hx4:=(HX3.out.sub (m:=[(w.heap.size+1,[.int .i64 0,.bool false,.slice none 0 0])]) (by intro q hq;simp at hq ⊢;exact .inl hq)).only ho4 (by
  intro q hq hm9;simp at hq;subst hq
  rcases RS.mem.1 hm9 with e|e
  ·simp at e;omega
  ·simp[Value.ownBlock] at e)
 have hb4:Below w.heap.size w w4:=HB3.out.trans (ho4.below HB3.out.size (fun k hk=>by
  rcases RS.mem.1 hk with e|e
  ·omega
  ·simp[Value.ownBlock] at e))
 obtain⟨w5,hw5⟩:∃x,w4.alloc (.cells #[.int .i64 p,.bool lf,.slice ya yn yc] 27)=x:=⟨_,rfl⟩
 have hb45:Below w4.heap.size w4 w5:=by rw[←hw5];exact Below.al (Below.refl _ _)
 have hxo:Boxes w5 [(w4.heap.size,[.int .i64 p,.bool lf,.slice ya yn yc])]:=by rw[←hw5];exact(Boxes.nil w4).alloc #[.int .i64 p,.bool lf,.slice ya yn yc] 27 rfl
 have hx5:=hx4.step hb45;have hy5:=hy4.below hb45;obtain⟨aW,cW,rfl,_⟩:=own_slice hy5.own;have s0:=hy5.box.cell 0 0 rfl rfl;have s1:=hy5.box.cell 0 1 rfl rfl;have o0:=hxo.cell 0 0 rfl rfl;have o1:=hxo.cell 0 1 rfl rfl;have o2:=hxo.cell 0 2 rfl rfl;have m0:=hx5.cell 0 0 rfl rfl;have m1:=hx5.cell 0 1 rfl rfl;have m2:=hx5.cell 0 2 rfl rfl;have u0:=hx5.frozen 0 0 rfl;have u1:=hx5.frozen 0 1 rfl;have u2:=hx5.frozen 0 2 rfl;obtain⟨we,hwe⟩:∃x,x=st3 w5 (w.heap.size+1) (.int .i64 p) (.bool lf) (.slice ya yn yc):=⟨_,rfl⟩
 have hxe:=st3_box hx5 (.int .i64 p) (.bool lf) (.slice ya yn yc);rw[←hwe] at hxe;have z0:=hxe.cell 0 0 rfl rfl;have z1:=hxe.cell 0 1 rfl rfl;have z2:=hxe.cell 0 2 rfl rfl;have HE:Hid (LayTo F w n (layT n t at_) (.returned (.tuple #[.agg #[.int .i64 p,.bool lf,.slice ya yn yc],.slice aW R.2.1.length cW,.slice la' R.2.2.length lc',.bool true])) we.drew):=Hd (by
  rw[hR];have hoe:Only [w.heap.size+1] w5 we:=by rw[hwe];exact st3_only _ _ _ _ _
  have hbe:Below w.heap.size w we.drew:=Below.dr ((hb4.trans (hb45.mono hb4.size)).trans (hoe.below (by have:=hb45.size;omega) (by simp)));have hown:we.drew.ownsRow w.heap.size 41 2 (.slice aW R.2.1.length cW) R.2.1.length (R.2.1.flatMap wcl):=by
   have h9:=own_only hy5.own hoe (fun k hk hm9=>by have:=(hy5.ge hk).1;simp at hm9;omega);have h8:=own_base h9 (show w.heap.size≤w2.heap.size+1 by omega);exact h8
  refine⟨p,lf,ya,yn,yc,_,_,rfl,?_,hown,hbe⟩;refine RNodeOn.mono (fun b hb=>?_) ((hn4.agree (AgreeF.of_below hb45)).agree (w':=we.drew) ⟨hoe.size,fun b hb hlt9=>hoe.block hlt9 (fun hm9=>?_)⟩)
  ·rcases hb with hb|hb
   ·exact .inl hb
   ·exact .inr (by omega)
  ·simp at hm9
   rcases hb with hb|hb
   ·have:=HF.out.2 b hb;omega
   ·omega)
 clear hxe hx5 hxo hx4 hb4 hb45 hy4 hy5 ho4 ht4 hn4 hR CL;go_wp2_with fail
 go_region
 all_goals (
  go_wp2_with fail;change bodyPost Tryz.prog _ _ _ _ (st3 w5 (w.heap.size+1) (.int .i64 p) (.bool lf) (.slice ya yn yc)).drew;rw[←hwe];refine bodyPost_ret (v:=.tuple #[.agg #[.int .i64 p,.bool lf,.slice ya yn yc],.slice aW R.2.1.length cW,.slice la' R.2.2.length lc',.bool true]) (by simp[results,Tryz.results44,go_sem,z0,z1,z2]) rfl ?_;exact HE.out)
open Go.RowKit
def pzC (y:Pz):List Value:=[.string (strOf y.key),.int .i64 y.size]
def IsPz (cs:List Value) (y:Pz):Prop:=cs=pzC y
def Pzs (w:World) (a:Option Addr) (n c:Nat) (l:List Pz):Prop:=TabR 2 IsPz w a n c l
theorem Pzs.at {w:World} {a:Option Addr} {n c:Nat} {l:List Pz} (h:Pzs w a n c l) {k:Nat} (hk:k<n) :
 ∃b off y,a=some ⟨b,off,none⟩∧b<w.heap.size∧l[k]? = some y∧w.cell? ⟨b,off+k*2,none⟩=some (.string (strOf y.key))∧w.cell? ⟨b,off+k*2+1,none⟩=some (.int .i64 y.size):=by
 obtain⟨b,off,y,cs,e1,e2,e3,_,e5,e6⟩:=TabR.at h hk;obtain rfl:cs=pzC y:=e5;exact⟨b,off,y,e1,e2,e3,e6 0 _ rfl,e6 1 _ rfl⟩
def okZ (y:Pz):Bool:=(y.key != []) && (decide (y.key.length≤16) && (decide (0≤y.size) && decide (y.size≤400)))
def smallZ (l:List Pz):Bool:=l.all okZ && decide (l.length≤60)
def atZ (fr m:Nat):List Int:=(List.range m).map fun(k:Nat)=>((2:Int)+(fr:Int)+(k:Int))
theorem atZ_len (fr m:Nat):(atZ fr m).length=m:=by simp[atZ]
theorem atZ_succ (fr m:Nat):atZ fr (m+1)=atZ fr m++[(2:Int)+(fr:Int)+(m:Int)]:=by simp[atZ,List.range_succ]
theorem atZ_mem {fr m:Nat} {p:Int} (h:p∈atZ fr m):2+(fr:Int)≤p∧p<2+fr+m:=by
 unfold atZ at h;obtain⟨k,hk,rfl⟩:=List.mem_map.1 h;have:=List.mem_range.1 hk;omega
theorem atZ_rises (fr m:Nat):Rises (atZ fr m):=by
 intro i j x y hij hx hy;have h1:∀(q:Nat) (z:Int),(atZ fr m)[q]? = some z→z=2+(fr:Int)+(q:Int):=fun q z hz=>by
  unfold atZ at hz;rw[List.getElem?_map] at hz;obtain⟨k,hk,rfl⟩:=Option.map_eq_some_iff.1 hz;obtain⟨hq,e⟩:=List.getElem?_eq_some_iff.1 hk;rw[List.getElem_range] at e;rw[e]
 rw[h1 i x hx,h1 j y hy];omega
def LaidTo (w:World) (l:List Pz) (fr:Nat) (e:Ending) (w':World):Prop:=Below w.heap.size w w' ∧
 ((smallZ l=false∧∃p lf a m d vW,e=.returned (.tuple #[.agg #[.int .i64 p,.bool lf,.slice a m d],vW,.bool false])) ∨
 (smallZ l=true∧∃N T,LaidR l N T∧∃R,layT N T (atZ fr (freshN N T))=R∧∃p lf a m d aW cW,e=.returned (.tuple #[.agg #[.int .i64 p,.bool lf,.slice a m d],.slice aW R.2.1.length cW,.bool true])∧RNodeOn (fun x=>w.heap.size<x) N w' [.int .i64 p,.bool lf,.slice a m d] R.1∧w'.ownsRow (w.heap.size+1) 41 2 (.slice aW R.2.1.length cW) R.2.1.length (R.2.1.flatMap wcl)))
theorem info_b20:(Tryz.prog.info? 5).map (fun i=>(i.zero,i.size,i.bytes))=some (some (.int .u8 0),1,1):=by kernel_rfl
theorem make_fill20 (n:Nat) (hn:n≤400) (w:World):∃w1,(Instr.makeSlice 42 (.int .i64 (n:Int)) (.int .i64 (n:Int))).run Tryz.prog w=.ok (.slice (some ⟨w.heap.size,0,none⟩) n n) w1∧Below w.heap.size w w1∧(convert 42 9 (.slice (some ⟨w.heap.size,0,none⟩) n n)).run Tryz.prog w1=.ok (.string (strOf (fillT 0 n))) w1:=by
 obtain⟨i0,hi,hz0,hz1,hz2⟩:=info_parts info_b20;obtain⟨w1,hm,ho1,hg1⟩:=run_makeSlice_full (P:=Tryz.prog) (w:=w) w.heap.size 42 5 i0 _ 1 Tryz.underlying42 hi hz0 hz1 .i64 .i64 n (by omega) (by rw[hz2];omega) (by unfold maxLen;omega) (Nat.le_refl _);refine⟨w1,hm,(Below.refl _ _).grown hg1 (Nat.le_refl _) (fun j e=>by cases e),?_⟩;have ho:w1.ownsRow w.heap.size 5 1 (.slice (some ⟨w.heap.size,0,none⟩) n n) n ((toI (fillT 0 n)).map (Value.int .u8)):=by
  have hmade:(madeCells (Value.int .u8 0).cells (n*1)).toList=List.replicate n (.int .u8 0):=by rw[Nat.mul_one];exact made_list (.int .u8 0) n
  rw[hmade] at ho1;have e:((toI (fillT 0 n)).map (Value.int .u8))=List.replicate n (.int .u8 0):=by simp[toI,fillT]
  rw[e];exact ho1
 exact conv_string Tryz.underlying42 Tryz.underlying5 Tryz.underlying9 (Bs.own ho)
theorem LaidR.nextN {l:List Pz} {i m:Nat} {t:Tr} (h:LaidR (l.take i) m t) {k:List UInt8} {sn:Nat} (hy:l[i]? = some ⟨k,(sn:Int)⟩) (ho:okZ ⟨k,(sn:Int)⟩=true):∃m',m'≤m+1∧LaidR (l.take (i+1)) m' (putW m t k ⟨fillT 0 sn,[]⟩):=by
 have hp:(⟨k,(sn:Int)⟩:Pz).ok:=by
  unfold okZ at ho;simp at ho;exact⟨ho.1,ho.2.1,by simp,by simpa using ho.2.2⟩
 obtain⟨m',h1,h2⟩:=h.more hp;rw[List.take_succ_eq_append_of hy];exact⟨m',h1,h2⟩
theorem laid_any {w:World} {a:Option Addr} {n c:Nat} {l:List Pz} (h:Pzs w a n c l) {fr:Nat} (hfr:fr≤255):Calls Tryz.prog 10 #[.slice a n c,.int .u8 (fr:Int)] w (LaidTo w l fr):=by
 obtain⟨e1,e2,e3⟩:=TabR.lens h;have HP:=Hd h;have HL:=Hd e1;obtain⟨W0,hW0⟩:∃x,w.alloc (.cells #[.int .i64 0,.bool false,.slice none 0 0] 27)=x:=⟨_,rfl⟩
 have hb0:Below w.heap.size w W0:=by rw[←hW0];exact Below.al (Below.refl _ _)
 have hx0:Boxes W0 [(w.heap.size,[.int .i64 0,.bool false,.slice none 0 0])]:=by
  rw[←hW0];exact(Boxes.nil w).alloc #[.int .i64 0,.bool false,.slice none 0 0] 27 (b:=w.heap.size) rfl
 have hs0:W0.heap.size=w.heap.size+1:=by rw[←hW0];simp
 have E2:=rempty_any W0 (fun _=>False);have HB0:=Hd hb0;have HX0:=Hd hx0;have HS0:=Hd hs0;clear h e1 hb0 hx0 hs0;go_enter Tryz.func10,Tryz.ntmps10;go_wp2_with fail;refine E2.mono ?_;rintro e w1 ⟨cs,rfl,hn5,hb5⟩;obtain⟨y1,j1,ecs,hn5⟩:=rempty_on (F:=fun x=>w1.heap.size+1≤x) hn5;subst ecs;have hs1:w.heap.size<w1.heap.size:=by have:=HS0.out;have:=hb5.size;omega
 have hb5a:Below w1.heap.size w1 (w1.alloc (.cells #[.int .i64 0,.bool true,.slice y1 0 j1] 27)):=Below.al (Below.refl _ _);have hbW:=below_via hb5 hb5a;have HR:Hid (RBox (w1.heap.size+1) w1.heap.size (w1.alloc (.cells #[.int .i64 0,.bool true,.slice y1 0 j1] 27)) 1 (.leaf 0 [])):=Lib.hid
  ⟨_,_,_,_,_,(Boxes.nil w1).alloc #[.int .i64 0,.bool true,.slice y1 0 j1] 27 (b:=w1.heap.size) rfl,hn5.below hb5a⟩
 have HZ:=Hd (HX0.out.step hbW);have HBEL:=Hd (below_via HB0.out hbW);clear E2 hn5 hb5 hb5a hbW hW0;go_wp2_with fail
 go_loopw [8] (fun s8 wr=>∃(i N:Nat) (t:Tr),i≤n∧s8=.int .i64 i∧RBox (w1.heap.size+1) w1.heap.size wr N t∧Hid (LaidR (l.take i) N t)∧Boxes wr [(w.heap.size,[.int .i64 0,.bool false,.slice none 0 0])]∧Hid ((l.take i).all okZ=true)∧(i=0∨n≤60)∧Below w.heap.size w wr) (fun s _=>n-(intOf s).toNat)
 case atStart=>exact⟨0,1,_,Nat.zero_le _,rfl,HR.out,Hd .nil,HZ.out,Hd rfl,.inl rfl,HBEL.out⟩
 case round=>
  clear HR HZ HBEL;obtain⟨i,N,t,hi,rfl,hrb,HLR,hz0,hall,h120,hb⟩:=hrel;obtain⟨p,lf,a1,n1,c1,hx,hr⟩:=hrb;have f0:=hx.cell 0 0 rfl rfl;have f1:=hx.cell 0 1 rfl rfl;have f2:=hx.cell 0 2 rfl rfl;have hsz5:w1.heap.size+1≤wr.heap.size:=hx.lt 0 rfl
  by_cases hlt:i<n
  ·obtain⟨bl,ol,y,rfl,hbl,hy,c0,c1'⟩:=HP.out.at hlt
   have hlt':(i:Int)<(n:Int):=by omega
   have hbl2:=Nat.lt_of_lt_of_le hbl hb.size;have HGOOD:Hid (okZ y=true→(l.take (i+1)).all okZ=true):=Hd (fun hp=>all_next hy hp hall.out);have HBAD:Hid (okZ y=false∨60<n→smallZ l=false):=Hd (fun hp=>by
    rcases hp with hp|hp
    ·unfold smallZ;rw[all_bad hy hp];rfl
    ·unfold smallZ
     rw[show decide (l.length≤60)=false by simp;have:=HL.out;omega,Bool.and_false])
   have HY:=Hd hy;obtain⟨k,sz⟩:=y;dsimp only at *;have v0:=(hb.cell (p:=⟨bl,ol+i*2,none⟩) hbl).trans c0;have v1:=(hb.cell (p:=⟨bl,ol+i*2+1,none⟩) hbl).trans c1';have hszk:=strOf_size k;obtain⟨m,hm⟩:∃m,k.length=m:=⟨_,rfl⟩
   rw[hm] at hszk;have HM:=Hd hm;clear hm hy
   by_cases kb:k=[]
   ·have g1:=str_empty kb
    have hs:=HBAD.out (by left;unfold okZ;simp[kb]);exact qf1843d
   have g1:=str_some kb
   by_cases k16:¬m≤16
   ·have d1:decide ((16:Int)<m)=true:=by simp;omega
    have d1':decide (16<m)=true:=by simp;omega
    have hs:=HBAD.out (by left;unfold okZ;simp[HM.out,k16]);exact qf1843d
   have k16:m≤16:=by omega
   have d1:decide ((16:Int)<m)=false:=by simp;omega
   have d1':decide (16<m)=false:=by simp;omega
   by_cases s0:sz<0
   ·have d3:decide (sz<0)=true:=by simp;omega
    have hs:=HBAD.out (by left;unfold okZ;simp;intros;omega);exact qf1843d
   have d3:decide (sz<0)=false:=by simp;omega
   by_cases s4:¬sz≤400
   ·have d4:decide ((400:Int)<sz)=true:=by simp;omega
    have hs:=HBAD.out (by left;unfold okZ;simp;intros;omega);exact qf1843d
   have s4:sz≤400:=by omega
   have d4:decide ((400:Int)<sz)=false:=by simp;omega
   by_cases n12:¬n≤60
   ·have d5:decide ((60:Int)<n)=true:=by simp;omega
    have d5':decide (60<n)=true:=by simp;omega
    have hs:=HBAD.out (by right;omega);exact qf1843d
   have n12:n≤60:=by omega
   have d5:decide ((60:Int)<n)=false:=by simp;omega
   have d5':decide (60<n)=false:=by simp;omega
   obtain⟨sn,rfl⟩:∃sn:Nat,sz=(sn:Int):=⟨sz.toNat,by omega⟩
   have hsn:sn≤400:=by omega
   have hokz:okZ ⟨k,(sn:Int)⟩=true:=by unfold okZ;simp[kb,HM.out,k16];omega
   have hall':=HGOOD.out hokz;have HALL:=Hd hall';have hyk:keyOk k:=⟨kb,by rw[HM.out];exact k16⟩
   obtain⟨M,hM,hLM⟩:=HLR.out.nextN HY.out hokz;clear hall' HGOOD HBAD hall hokz HY;obtain⟨T,hT⟩:∃T,putW N t k ⟨fillT 0 sn,[]⟩=T:=⟨_,rfl⟩
   rw[hT] at hLM;have HLM:=Hd hLM;have hw:=HLR.out.whole;obtain⟨w6,hmk,hb6,hcv⟩:=make_fill20 sn hsn wr.drew;have hB6:Below wr.heap.size wr w6:=below_via (Below.dr (Below.refl _ _)) hb6;have hA6:AgreeF (fun x=>x≠w1.heap.size) wr w6:=AgreeF.of_below hB6;have CRc:∀W,Below wr.heap.size wr W→Calls Tryz.prog 42 #[.agg #[.int .i64 p,.bool lf,.slice a1 n1 c1],.string (strOf k),.string (strOf (fillT 0 sn))] W (RGo (fun x=>w1.heap.size+1≤x) M W T):=fun W hW=>by
    have:=rPut_whole (F:=fun x=>w1.heap.size+1≤x∧x<wr.heap.size) (fun b h=>Nat.lt_of_lt_of_le h.2 hW.size) (hr.lt.below hW) hw k (fillT 0 sn) hyk (by rw[fillT_len];exact hsn);rw[hT] at this;exact this.mono fun e w' h=>h.go (fun b hb=>fr_le (fun b h=>h.1) hsz5 hW.size hb) HLM.out.whole.1.1
   have l0:∀W,AgreeF (fun x=>x≠w1.heap.size) wr W→W.cell? ⟨bl,ol+i*2,none⟩=some (.string (strOf k)):=fun W hW=>(hW.cell (by show bl≠w1.heap.size;omega) hbl2).trans v0
   have l1:∀W,AgreeF (fun x=>x≠w1.heap.size) wr W→W.cell? ⟨bl,ol+i*2+1,none⟩=some (.int .i64 (sn:Int)):=fun W hW=>(hW.cell (by show bl≠w1.heap.size;omega) hbl2).trans v1
   have hx6:=hx.step hB6;have m0:=hx6.cell 0 0 rfl rfl;have m1:=hx6.cell 0 1 rfl rfl;have m2:=hx6.cell 0 2 rfl rfl;have HX:=Hd hx;have HZ:=Hd hz0;have HB:=Hd hb;clear hx hr hz0 hb hw hyk kb hT hx6 s0 hLM HLR;go_upto_region 7 with(fail)
   clear v0 v1;refine wp_region_noPanic ?_;refine wp_region_held_drew (S:=(fun W=>AgreeF (fun x=>x≠w1.heap.size) wr W)) (by kernel_rfl) (by(repeat (with_reducible first|assumption|exact AgreeF.refl _|apply AgreeF.al|apply AgreeF.dr|apply AgreeF.st))) (fun hHeld=>?_);refine tks [1,2] ?_;refine tks [3,4] ?_;refine tks [5,6] ?_;refine tks [7,8] ?_;refine tks [9,10] ?_;refine rdy2 0 11 (fun K hK=>?_) (fun K hK=>?_)
   ·(rw[if_pos (by rfl)];go_wp2_with (fail))
    refine bkA hK (fun hHeld=>?_);clear hK K;refine rdy 11 (fun K hK=>?_);refine step_make_run rfl _ _ _ rfl rfl rfl hmk ?_;refine bkA hK (fun hHeld=>?_);clear hK K;refine rdy 12 (fun K hK=>?_);refine step_convert_run rfl _ _ _ rfl rfl hcv ?_;exact qa3ab36
   ·refine step_make_run rfl _ _ _ rfl rfl rfl hmk ?_
    refine bkA hK (fun hHeld=>?_);clear hK K;refine rdy2 0 12 (fun K hK=>?_) (fun K hK=>?_)
    ·(rw[if_pos (by rfl)];go_wp2_with (fail))
     refine bkA hK (fun hHeld=>?_);clear hK K;refine rdy 12 (fun K hK=>?_);refine step_convert_run rfl _ _ _ rfl rfl hcv ?_;exact qa3ab36
    ·refine step_convert_run rfl _ _ _ rfl rfl hcv ?_
     refine bkA hK (fun hHeld=>?_);clear hK K;refine rdy 0 (fun K hK=>?_)
     (rw[if_pos (by rfl)];go_wp2_with (fail))
     exact qa3ab36
  ·obtain rfl:i=n:=by omega
   obtain⟨wA,hwA⟩:∃x,x=wr:=⟨_,rfl⟩
   subst hwA;have hlt':decide ((i:Int)<(i:Int))=false:=by simp
   have hs:smallZ l=true:=by
    unfold smallZ;rw[all_whole (by rw[HL.out];exact Nat.le_refl _) hall.out,HL.out,Bool.true_and];simp;omega
   have hlr:=HLR.out;rw[List.take_of_length_le (by rw[HL.out];exact Nat.le_refl _)] at hlr;have hl60:l.length≤60:=by unfold smallZ at hs;simp at hs;exact hs.2
   have hfn:=hlr.fresh;have hnn:=hlr.ents.2;have CF0:∀W,Below wA.heap.size wA W→Calls Tryz.prog 43 #[.agg #[.int .i64 p,.bool lf,.slice a1 n1 c1]] W fun e w'=>e=.returned (.int .i64 (freshN N t:Nat))∧Below W.heap.size W w':=fun W hW=>
    rfresh_any (hr.below hW) hlr.bare hlr.whole.bnd (by omega)
   have CL0:∀W,Below wA.heap.size wA W→∀a9 c9,Row .i64 W a9 (freshN N t) c9 (atZ fr (freshN N t))→(∀x,a9=some x→wA.heap.size≤x.block∧x.block<W.heap.size)→Calls Tryz.prog 44 #[.agg #[.int .i64 p,.bool lf,.slice a1 n1 c1],.slice a9 (freshN N t) c9] W (LayTo (fun b=>wA.heap.size≤b∧b<W.heap.size) W N (layT N t (atZ fr (freshN N t)))):=fun W hW a9 c9 hrow hin=>
    Lay_any (F:=fun b=>wA.heap.size≤b∧b<W.heap.size) (G:=fun x=>w1.heap.size+1≤x∧x<wA.heap.size) (hr.lt.below hW) (fun b hb=>Nat.lt_of_lt_of_le hb.2 hW.size) hlr.bare hlr.whole.bnd (by omega) (whole_check hlr.whole) hrow hin (fun b hb=>hb.2) (atZ_rises _ _) (by omega) (fun p hp=>by have:=atZ_mem hp;omega) (Nat.le_refl _)
   obtain⟨f,hf⟩:∃f,freshN N t=f:=⟨_,rfl⟩
   rw[hf] at CF0 CL0 hfn;have HF:=Hd hf;have HLR2:=Hd hlr;have HS:=Hd hs;have HX:=Hd hx;have HZ:=Hd hz0;have HB:=Hd hb;have hf3:f≤360:=by omega
   have HII:=Hd infoI;clear hs hlr hr hx hz0 hb hall HLR hl60 hfn hf;go_wp2_with fail
   go_loopw [9,10] (fun s9 s10 wx=>∃k:Nat,k≤f∧s10=.int .i64 k∧wx.ownsRow wA.heap.size 3 1 s9 k ((atZ fr k).map (Value.int .i64))∧Below wA.heap.size wA wx) (fun _ s _=>f-(intOf s).toNat)
   case atStart=>exact⟨0,Nat.zero_le _,rfl,own_nil _ _ _ _,Below.refl _ _⟩
   case round=>
    obtain⟨k,hk,rfl,hown,hbx⟩:=hrel;have hx4:=HX.out.step hbx;have g0:=hx4.cell 0 0 rfl rfl;have g1:=hx4.cell 0 1 rfl rfl;have g2:=hx4.cell 0 2 rfl rfl;clear hx4 f0 f1 f2;go_wp2_with fail;refine(CF0 _ hbx).mono ?_;rintro e w6 ⟨rfl,hb6⟩;have hbx6:=below_via hbx hb6;have hown6:=own_below hown (Nat.le_refl _) hb6
    by_cases hkf:k<f
    ·have hkf':decide ((k:Int)<(f:Int))=true:=by simp;omega
     obtain⟨i0,hi0,hz0,hz1,hz2⟩:=info_parts HII.out;obtain⟨u,hu⟩:∃u,(2:Int)+(fr:Int)+(k:Int)=u:=⟨_,rfl⟩
     have hun:=atZ_succ fr k;rw[hu] at hun;have HUN:=Hd hun;have HSZ:=Hd hbx6.size;have hB1:=Hd (hbx6.alloc hbx6.size (.cells #[.int .i64 u] 3));have hown1:=hown6.alloc (.cells #[.int .i64 u] 3);have hcl:(w6.alloc (.cells #[.int .i64 u] 3)).cell? ⟨w6.heap.size,0,none⟩=some (.int .i64 u):=by
      simp only[World.cell?,World.alloc_heap_new];rfl
     have HG:=Hd (own_ge hown6);clear hun hown hown6 hbx hbx6 hb6 g0 g1 g2
     go_wp2_with (at_builtin;refine wpList_append_one rfl _ _ 35 rfl wA.heap.size 3 i0 _ 8 Tryz.underlying35 hi0 hz0 hz1 hz2 rfl _ k _ rfl hown1 w6.heap.size rfl (.int .i64 u) hcl rfl (by unfold maxLen;omega) (by omega) (by have:=HSZ.out;simp;omega) ?_)
     intro v2 w2 hown2 hg;have HBB:=Hd (hB1.out.grown hg (by have:=HSZ.out;simp;omega) (fun j e=>HG.out j e));clear hg;go_wp2_with fail;go_roundw
     case rel=>exact⟨k+1,by omega,by go_num,by rw[HUN.out,List.map_append];exact hown2,HBB.out⟩
     case measure=>simp[intOf];omega
    ·obtain rfl:k=f:=by omega
     have hkf':decide ((k:Int)<(k:Int))=false:=by simp
     obtain⟨a9,c9,rfl,hrow⟩:=Row.of_own hown6;have hin:∀x,a9=some x→wA.heap.size≤x.block∧x.block<w6.heap.size:=fun x hx9=>by
      subst hx9;exact⟨own_ge hown6 _ rfl,own_lt hown6 _ rfl⟩
     have CL:=CL0 w6 hbx6 a9 c9 hrow hin;have hx6:=HX.out.step hbx6;have q0:=hx6.cell 0 0 rfl rfl;have q1:=hx6.cell 0 1 rfl rfl;have q2:=hx6.cell 0 2 rfl rfl;have hz6:=HZ.out.step hbx6;have HZ6:=Hd hz6;have HB6:=Hd (below_via HB.out hbx6);have HS6:=Hd hbx6.size;obtain⟨R,hR⟩:∃x,layT N t (atZ fr k)=x:=⟨_,rfl⟩
     rw[hR] at CL;have HR:=Hd hR;clear hR hin hrow hown hown6 hbx hbx6 hb6 hx6 hz6 CL0 CF0 g0 g1 g2;go_wp2_with fail;refine CL.mono ?_;rintro e w9 ⟨p9,l9,a9',n9,c9',vW,vX,rfl,hn9,ho9,hb9⟩;obtain⟨aW,cW,rfl,_⟩:=own_slice ho9;have hs6:=HS6.out;obtain⟨w5,hw5⟩:∃x,w9.alloc (.cells #[.int .i64 p9,.bool l9,.slice a9' n9 c9'] 27)=x:=⟨_,rfl⟩
     have hb45:Below w9.heap.size w9 w5:=by rw[←hw5];exact Below.al (Below.refl _ _)
     have hxo:Boxes w5 [(w9.heap.size,[.int .i64 p9,.bool l9,.slice a9' n9 c9'])]:=by rw[←hw5];exact(Boxes.nil w9).alloc #[.int .i64 p9,.bool l9,.slice a9' n9 c9'] 27 rfl
     have hb96:Below w6.heap.size w6 w5:=below_via hb9 hb45;have hx5:=HZ6.out.step hb96;have hb5:Below w.heap.size w w5:=below_via HB6.out hb96;have o0:=hxo.cell 0 0 rfl rfl;have o1:=hxo.cell 0 1 rfl rfl;have o2:=hxo.cell 0 2 rfl rfl;have m0:=hx5.cell 0 0 rfl rfl;have m1:=hx5.cell 0 1 rfl rfl;have m2:=hx5.cell 0 2 rfl rfl;have u0:=hx5.frozen 0 0 rfl;have u1:=hx5.frozen 0 1 rfl;have u2:=hx5.frozen 0 2 rfl;obtain⟨we,hwe⟩:∃x,x=st3 w5 w.heap.size (.int .i64 p9) (.bool l9) (.slice a9' n9 c9'):=⟨_,rfl⟩
     have hxe:=st3_box hx5 (.int .i64 p9) (.bool l9) (.slice a9' n9 c9');rw[←hwe] at hxe;have z0:=hxe.cell 0 0 rfl rfl;have z1:=hxe.cell 0 1 rfl rfl;have z2:=hxe.cell 0 2 rfl rfl;have HE:Hid (LaidTo w l fr (.returned (.tuple #[.agg #[.int .i64 p9,.bool l9,.slice a9' n9 c9'],.slice aW R.2.1.length cW,.bool true])) we):=Hd (by
      have hoe:Only [w.heap.size] w5 we:=by rw[hwe];exact st3_only _ _ _ _ _
      have hbe:Below w.heap.size w we:=hb5.trans (hoe.below (by have:=hb5.size;omega) (by simp));refine⟨hbe,.inr ⟨HS.out,N,t,HLR2.out,R,by rw[HF.out];exact HR.out,p9,l9,a9',n9,c9',aW,cW,rfl,?_,?_⟩⟩
      ·refine RNodeOn.mono (fun b hb=>?_) ((hn9.agree (AgreeF.of_below hb45)).agree (w':=we) ⟨hoe.size,fun b hb hlt9=>hoe.block hlt9 (fun hm9=>?_)⟩)
       ·rcases hb with hb|hb
        ·omega
        ·omega
       ·simp at hm9
        rcases hb with hb|hb<;>omega
      ·have h9:=own_only (own_below ho9 (Nat.le_refl _) hb45) hoe (fun k hk hm9=>by have:=own_ge ho9 k hk;simp at hm9;omega)
       exact own_base h9 (show w.heap.size+1≤w6.heap.size by omega))
     clear hxe hx5 hxo hb5 hb45 hb96 hn9 ho9 hb9 CL;go_wp2_with fail;change bodyPost Tryz.prog _ _ _ _ (st3 w5 w.heap.size (.int .i64 p9) (.bool l9) (.slice a9' n9 c9'));rw[←hwe];refine bodyPost_ret (v:=.tuple #[.agg #[.int .i64 p9,.bool l9,.slice a9' n9 c9'],.slice aW R.2.1.length cW,.bool true]) (by simp[results,Tryz.results10,go_sem,z0,z1,z2]) rfl ?_;exact HE.out
open Go.RowKit
theorem zerosL_sum:(crcOf (List.replicate 124 0) == 0)=false:=by kernel_rfl
theorem zerosL_unp:unpE (List.replicate 128 0)=12:=by
 have h:=zerosL_sum;unfold unpE;rw[if_neg (by simp)];have e1:(List.replicate 128 (0:UInt8)).take 4=List.replicate 4 0:=by simp
 have e2:(List.replicate 128 (0:UInt8)).drop 4=List.replicate 124 0:=by simp
 rw[e1,e2,if_pos];intro e;have hz:beVal (List.replicate 4 0)=0:=by decide
 rw[hz] at e;rw[←e] at h;simp at h
theorem load_sum {d:List Rg} {r N:Nat} {f:Nat→List UInt8} (hd:RegAt d r N f) {p:Int} (hp:1≤p∧p<N) (hz:unpE (f p.toNat)=12):loadD d r p=.error 12:=by
 have hpd:pagedE d r p=0:=by rw[hd.paged,if_pos ⟨by omega,hp.2⟩]
 have hrd:readB d r p=f p.toNat:=hd.read ⟨by omega,hp.2⟩;have hg:getNE (f p.toNat)=12:=by
  unfold getNE;rw[if_pos (by rw[hz];decide),hz]
 have:loadT d r (999+1) [] p=.error 12:=by
  rw[loadT,if_neg (by simp),if_neg (by rw[hpd];decide),hrd,if_pos (by rw[hg];decide),hg]
 unfold loadD;rw[if_neg (by omega),show(1000:Nat)=999+1 from rfl,this]
theorem LaidR.nil_inv {m:Nat} {t:Tr} (h:LaidR [] m t):m=1∧t=.leaf 0 []:=by
 generalize hL:([]:List Pz)=L at h;cases h with
 | nil=>exact⟨rfl,rfl⟩
 | put=>simp at hL
theorem LaidR.one_inv {p:Pz} {m:Nat} {t:Tr} (h:LaidR [p] m t):t=putW 1 (.leaf 0 []) p.key p.val∧Whole m t:=by
 generalize hL:[p]=L at h;cases h with
 | nil=>cases hL
 | @put l m0 m' t0 p' h0 hok hm hw he=>
  have:l=[]∧p'=p:=by
   cases l with
   | nil=>simp at hL;exact⟨rfl,hL.symm⟩
   | cons=>simp at hL
  obtain⟨rfl,rfl⟩:=this;obtain⟨rfl,rfl⟩:=h0.nil_inv;exact⟨rfl,hw⟩
def aP:Pz:=⟨[107],30⟩
def aD:List UInt8:=List.replicate 30 0
def aT:Tr:=.leaf 0 [([107],⟨aD,[]⟩)]
def aL:Tr:=.leaf 3 [([107],⟨aD,[2]⟩)]
theorem aw_tree:putW 1 (.leaf 0 []) aP.key aP.val=aT:=by kernel_rfl
theorem aw_fresh:freshN 1 aT=2:=by kernel_rfl
theorem aw_lay:(layT 1 aT (atZ 0 2)).1=aL:=by kernel_rfl
theorem aw_small:smallZ [aP]=true:=by kernel_rfl
theorem aw_spots:Spots 9 (atZ 0 2):=atZ_spots (fr:=0) (by omega) (by omega)
theorem aw_laid {N:Nat} {T:Tr} (h:LaidR [aP] N T):N=1∧T=aT∧Whole 1 aT∧Bare aT:=by
 have hb:=h.bare;obtain⟨h1,h2⟩:=h.one_inv;rw[aw_tree] at h1;subst h1;cases N with
 | zero=>exact h2.1.1.elim
 | succ n=>
  have:n=0:=h2.1.1.1;subst this;exact⟨rfl,rfl,h2,hb⟩
theorem aw_writes (hw:Whole 1 aT) (hb:Bare aT):(layT 1 aT (atZ 0 2)).2.1.map (·.1)=[2,3]∧∀x∈(layT 1 aT (atZ 0 2)).2.1,x.2.length=128:=by
 have h:=whole_writes hw hb aw_spots (by rw[aw_fresh,atZ_len];omega);rw[aw_fresh] at h;exact⟨h.1.trans (by decide),h.2⟩
theorem aw_loads (hw:Whole 1 aT) (hb:Bare aT) {d:List Rg} (h:Wrtn zeros 9 (layT 1 aT (atZ 0 2)).2.1 2 d):loadD d 0 3=.ok aL∧loadD d 0 7=.error 12∧loadD d 0 0=.ok (.leaf 0 []):=by
 obtain⟨w1,w2⟩:=aw_writes hw hb;have hl:=congrArg List.length w1;simp only[List.length_map] at hl;obtain⟨f,h1,h2,h3⟩:=h;rw[List.take_of_length_le (by rw[hl];exact Nat.le_refl _)] at h2 h3;refine⟨?_,load_sum h1 (by omega) ?_,?_⟩
 ·have:=loadD_back h1 (n:=1) (by omega) hw hb aw_spots (by rw[aw_fresh,atZ_len];omega) h2
  rw[aw_lay] at this;exact this
 ·show unpE (f 7)=12
  rw[h3 7 (fun x hx e=>by
   have:x.1∈[(2:Int),3]:=by rw[←w1];exact List.mem_map.2 ⟨x,hx,rfl⟩
   simp at this;omega)]
  exact zerosL_unp
 ·unfold loadD
  exact if_pos rfl
open Go.RowKit
theorem empty_on2 {F G:Nat→Prop} {w:World} {cs:List Value} (h:NodeOn G 1 w cs (.leaf 0 [])):∃a1 c1 a2 c2 a3 c3,cs=[.int .i64 0,.bool true,.slice a1 0 c1,.slice a2 0 c2,.slice a3 0 c3]∧NodeOn F 1 w cs (.leaf 0 []):=by
 obtain⟨ka,kn,kc,va,vn,vc,ca,cc,e,h1,_,h2,_,h3⟩:=h;obtain rfl:kn=0:=h1.1.symm;obtain rfl:vn=0:=h2.1.symm;exact⟨ka,kc,va,vc,ca,cc,e,ka,0,kc,va,0,vc,ca,cc,e,h1,Fa.zero _ _,unit_any (α:=Tv) h2,Fa.zero _ _,h3⟩
open Go.RowKit
theorem aw_one20 (W:World) (n:Int):Row .i64 (W.alloc (.cells #[.int .i64 n] 3)) (some ⟨W.heap.size,0,none⟩) 1 1 [n]:=Row.made .i64 W 3 [n] rfl (by unfold maxLen;simp)
theorem aw_row (w:World):Pzs (w.alloc (.cells #[.string ⟨#[107]⟩,.int .i64 30] 99)) (some ⟨w.heap.size,0,none⟩) 1 1 [aP]:=by
 refine⟨rfl,Nat.le_refl _,by unfold maxLen;omega,fun h=>(by cases h),.inr ⟨_,0,rfl,by simp,fun i y hy=>?_⟩⟩
 match i,hy with
 | 0,hy=>
  cases hy;refine⟨pzC aP,rfl,rfl,fun j v hj=>?_⟩
  match j,hj with
  | 0,hj=>cases hj;simp only[World.cell?,World.alloc_heap_new];rfl
  | 1,hj=>cases hj;simp only[World.cell?,World.alloc_heap_new];rfl
  | j+2,hj=>simp[pzC] at hj
 | i+1,hy=>simp at hy
theorem One.opens_at {B:Nat} {w w1:World} {da M:Nat} {d:List Rg} (h:One B w da M d) (hb:Below w.heap.size w w1):Opens B w.heap.size w1 da M d (fun w' M' d'=>One B w' da M' d'∧Below B w1 w'):=by
 obtain⟨F,bs,h1,h2,h3⟩:=h;have hs:=hb.size;refine⟨F,bs,h1.below hb,fun k hk=>⟨h2 k hk,h1.lt k hk⟩,hs,by omega,fun w' F' bs' d' M' _ ho hd hF=>⟨⟨F',bs',hd,fun k hk=>(hF k hk).elim (h2 k) (fun h=>by omega),by have:=ho.size;omega⟩,ho.below (by omega) h2⟩⟩
def Wrs (w:World) (a:Option Addr) (n c:Nat) (W:List Wr):Prop:=TabR 2 (fun cs y=>cs=wcl y) w a n c W
theorem Wrs.at {w:World} {a:Option Addr} {n c:Nat} {l:List Wr} (h:Wrs w a n c l) {k:Nat} (hk:k<n) :
 ∃b off y,a=some ⟨b,off,none⟩∧b<w.heap.size∧l[k]? = some y∧w.cell? ⟨b,off+k*2,none⟩=some (.int .i64 y.1)∧w.cell? ⟨b,off+k*2+1,none⟩=some (.string (strOf y.2)):=by
 obtain⟨b,off,y,cs,e1,e2,e3,_,e5,e6⟩:=TabR.at h hk;obtain rfl:cs=wcl y:=e5;exact⟨b,off,y,e1,e2,e3,e6 0 _ rfl,e6 1 _ rfl⟩
theorem Wrs.own {w:World} {base:Nat} {e:TypeId} {a:Option Addr} {c:Nat} {l:List Wr} (h:w.ownsRow base e 2 (.slice a l.length c) l.length (l.flatMap wcl)):Wrs w a l.length c l:=by
 obtain⟨a',c',e,hr⟩:=TabR.of_own (R:=fun cs y=>cs=wcl y) wcl (fun y=>rfl) (fun y=>rfl) h;cases e;exact hr
theorem aw_open {F:Nat→Prop} {w:World} {cs:List Value} (h:NodeOn F 1000 w cs aL):∃ka kc va vc ca cc,cs=[.int .i64 3,.bool true,.slice ka 1 kc,.slice va 1 vc,.slice ca 0 cc]∧∃b off,va=some ⟨b,off,none⟩∧b<w.heap.size∧w.cell? ⟨b,off,none⟩=some (.string (strOf aD))∧1≤vc∧vc≤maxLen:=by
 have h:NodeOn F (999+1) w cs aL:=h;obtain⟨ka,kn,kc,va,vn,vc,ca,cc,rfl,h1,_,h2,_,h3⟩:=h;have hk:kn=1:=by have:=(TabR.lens h1).1;simpa[keysOf] using this.symm
 have hv:vn=1:=by have:=(TabR.lens h2).1;simpa using this.symm
 subst hk hv;refine⟨ka,kc,va,vc,ca,cc,rfl,?_⟩;obtain⟨b,off,y,tcs,e1,e2,e3,_,e5,e6⟩:=TabR.at h2 (show 0<1 by omega);simp at e3;subst e3;obtain⟨pa,pn,pc,rfl,_⟩:=e5;have:=e6 0 _ rfl;exact⟨b,off,e1,e2,by simpa using this,(TabR.lens h2).2.1,(TabR.lens h2).2.2⟩
theorem awake20_any (w:World) (hh:Half w):Calls Tryz.prog 9 #[] w fun e w'=>e=.returned (.bool true)∧Below w.heap.size w w':=by
 have L:=laid_any (aw_row w) (fr:=0) (by omega);have hb0:Below w.heap.size w (w.alloc (.cells #[.string ⟨#[107]⟩,.int .i64 30] 99)):=Below.al (Below.refl _ _);go_enter Tryz.func9,Tryz.ntmps9;go_wp2_with fail;refine L.mono ?_;rintro e w1 ⟨hb1,hr⟩
 rcases hr with⟨hs,_⟩|⟨_,N,T,hlr,R,hR,p,lf,a,m,c,aW,cW,rfl,hn,ho⟩
 ·rw[aw_small] at hs;cases hs
 obtain⟨rfl,rfl,hwh,hbr⟩:=aw_laid hlr;rw[aw_fresh] at hR;obtain⟨q1,q2⟩:=aw_writes hwh hbr;obtain⟨w2,hw2⟩:∃x,w1.alloc (.cells #[.int .i64 p,.bool lf,.slice a m c] 27)=x:=⟨_,rfl⟩
 have hRl:R.1=aL:=by rw[←hR];exact aw_lay
 rw[hRl] at hn;have hp3:p=3:=by
  obtain⟨xa,xn,xc,e⟩:=RNodeOn.open_pos hn
  injection e with e _
  injection e
 subst hp3;rw[hR] at q1 q2;have hlen:R.2.1.length=2:=by have:=congrArg List.length q1;simpa using this
 have hb12:Below w1.heap.size w1 w2:=by rw[←hw2];exact Below.al (Below.refl _ _)
 have hWR:=(Wrs.own ho)
 have hWR2:Wrs w2 aW R.2.1.length cW R.2.1:=TabR.below (Nat.le_refl _) hb12 hWR;have hcW:=(TabR.lens hWR).2;unfold maxLen at hcW;rw[hlen] at hWR2 hcW ⊢;have hx2:Boxes w2 [(w1.heap.size,[.int .i64 3,.bool lf,.slice a m c])]:=by rw[←hw2];exact(Boxes.nil w1).alloc #[.int .i64 3,.bool lf,.slice a m c] 27 rfl
 have hbw2:Below w.heap.size w w2:=below_via (below_via hb0 hb1) hb12;have HP:=Hd hWR2;have HX:=Hd hx2;have HB2:=Hd hbw2;have HQ:=Hd (And.intro q1 q2);have HWB:=Hd (And.intro hwh hbr);have HRR:=Hd hR;have HLEN:=Hd hlen;have D:=new_ok (aw_one20 w2 9) (by decide);have hsz2:(w2.alloc (.cells #[.int .i64 9] 3)).heap.size=w2.heap.size+1:=by simp
 clear L hb0 hb1 hlr hR q1 q2 hRl hn hb12 hWR hWR2 hx2 hbw2 hwh hbr ho hlen;go_wp2_with fail;refine D.mono ?_;rintro e w3 ⟨db,rfl,hd3,hb3⟩;rw[hsz2] at hd3;have hw3:Below w2.heap.size w2 w3:=below_then ((Below.refl _ _).alloc (Nat.le_refl _) _) hb3;have HD3:=Hd hd3;have HW3:=Hd hw3;clear D hb3 hsz2 hd3 hw3;go_wp2_with fail
 go_loopw [6] (fun s6 wr=>∃(i:Nat) (d:List Rg),i≤2∧s6=.int .i64 i∧One (w2.heap.size+1) wr db i d∧Wrtn zeros 9 R.2.1 i d∧Below w2.heap.size w2 wr) (fun s _=>2-(intOf s).toNat)
 case atStart=>exact⟨0,_,Nat.zero_le _,rfl,HD3.out,Wrtn.start (RegAt.new (l:=[9]) (r:=0) rfl) _,HW3.out⟩
 case round=>
  clear HD3 HW3;obtain⟨i,d,hi,rfl,hd,hwr,hb⟩:=hrel
  by_cases hlt:i<2
  ·obtain⟨bl,ol,y,rfl,hbl,hy,c0,c1⟩:=HP.out.at hlt
   have hlt':(i:Int)<2:=by omega
   have hym:=List.mem_of_getElem? hy;have hy128:=HQ.out.2 y hym;have hstep:=hwr.step (by rw[HQ.out.1];decide) (fun x hx=>by
    have:x.1∈[(2:Int),3]:=by rw[←HQ.out.1];exact List.mem_map.2 ⟨x,hx,rfl⟩
    simp at this;omega) hy hy128
   have zm:=Mk.i 286482;exact q2a6c41
  ·obtain rfl:i=2:=by omega
   have hlt':decide ((2:Int)<2)=false:=by decide
   have hcp:=HX.out.step hb;have f0:=hcp.cell 0 0 rfl rfl;obtain⟨l1,l2,l3⟩:=aw_loads HWB.out.1 HWB.out.2 (d:=d) (by rw[HRR.out];exact hwr);have hbw:=below_then HB2.out hb;have G1:=load_any hd (hh.below (Nat.le_refl _) hbw) 0 3 (by unfold I64;omega);rw[l1] at G1;have HD:=Hd hd;have HBW:=Hd hbw;have HL2:=Hd l2;have HL3:=Hd l3;clear hd hbw hwr hb hcp l1 l2 l3;go_wp2_with fail;refine G1.mono ?_;rintro e w4 ⟨hb4,cs,rfl,hn4⟩;obtain⟨ka,kc,va,vc,ca,cc,rfl,bv,ov,rfl,hbv,hcv,hvc1,hvc2⟩:=aw_open hn4;obtain⟨w5,hw5⟩:∃x,w4.alloc (.cells #[.int .i64 3,.bool true,.slice ka 1 kc,.slice (some ⟨bv,ov,none⟩) 1 vc,.slice ca 0 cc] 50)=x:=⟨_,rfl⟩
   have hb45:Below w4.heap.size w4 w5:=by rw[←hw5];exact Below.al (Below.refl _ _)
   have hx5:Boxes w5 [(w4.heap.size,[.int .i64 3,.bool true,.slice ka 1 kc,.slice (some ⟨bv,ov,none⟩) 1 vc,.slice ca 0 cc])]:=by rw[←hw5];exact(Boxes.nil w4).alloc #[.int .i64 3,.bool true,.slice ka 1 kc,.slice (some ⟨bv,ov,none⟩) 1 vc,.slice ca 0 cc] 50 rfl
   have hcv5:=(hb45.cell (p:=⟨bv,ov,none⟩) hbv).trans hcv;have hbv5:=Nat.lt_of_lt_of_le hbv hb45.size;have hd5:=(HD.out.below hb4).below hb45;have hbw5:=below_then (below_then HBW.out hb4) hb45;have G2:=load_any hd5 (hh.below (Nat.le_refl _) hbw5) 0 7 (by unfold I64;omega);rw[HL2.out] at G2;have HX5:=Hd hx5;have HCV:=Hd hcv5;have HD5:=Hd hd5;have HB5:=Hd hbw5;clear hn4 hb4 hcv hbv hb45 hx5 hcv5 hd5 hbw5 G1 HD HBW;go_wp2_with fail;refine G2.mono ?_;rintro e w6 ⟨hb6,rfl⟩;obtain⟨w7,hw7⟩:∃x,w6.alloc (.cells #[.int .i64 0,.bool false,.slice none 0 0,.slice none 0 0,.slice none 0 0] 50)=x:=⟨_,rfl⟩
   have hb67:Below w6.heap.size w6 w7:=by rw[←hw7];exact Below.al (Below.refl _ _)
   have hb57:=below_via hb6 hb67;have hd7:=HD5.out.below hb57;have hbw7:=below_then HB5.out hb57;have G3:=load_any hd7 (hh.below (Nat.le_refl _) hbw7) 0 0 (by unfold I64;omega);rw[HL3.out] at G3;have HX7:=Hd (HX5.out.step hb57);have HC7:=Hd ((hb57.cell (p:=⟨bv,ov,none⟩) hbv5).trans HCV.out);have hbv7:=Nat.lt_of_lt_of_le hbv5 hb57.size;have HB7:=Hd hbw7;have HW7:=Hd hw7;clear hb6 hb67 hb57 hd7 hbw7 G2 HX5 HCV HD5 HB5 hw7;go_wp2_with fail;rw[HW7.out];refine G3.mono ?_;rintro e w8 ⟨hb8,cs,rfl,hn8⟩;obtain⟨e1,e2,e3,e4,e5,e6,rfl,_⟩:=empty_on2 (F:=fun _=>True) (NodeOn.less (m:=1) (lo:=[]) (hi:=[]) hn8 ⟨rfl,by simp[keysOf],fun c hc=>by cases hc⟩);obtain⟨w9,hw9⟩:∃x,w8.alloc (.cells #[.int .i64 0,.bool true,.slice e1 0 e2,.slice e3 0 e4,.slice e5 0 e6] 50)=x:=⟨_,rfl⟩
   have hb89:Below w8.heap.size w8 w9:=by rw[←hw9];exact Below.al (Below.refl _ _)
   have hx9:Boxes w9 [(w8.heap.size,[.int .i64 0,.bool true,.slice e1 0 e2,.slice e3 0 e4,.slice e5 0 e6])]:=by rw[←hw9];exact(Boxes.nil w8).alloc #[.int .i64 0,.bool true,.slice e1 0 e2,.slice e3 0 e4,.slice e5 0 e6] 50 rfl
   have hb79:=below_via hb8 hb89;have hxx:=HX7.out.step hb79;have m0:=hxx.cell 0 0 rfl rfl;have m2:=hxx.cell 0 2 rfl rfl;have m3:=hxx.cell 0 3 rfl rfl;have n1:=hx9.cell 0 1 rfl rfl;have n2:=hx9.cell 0 2 rfl rfl;have cv:=(hb79.cell (p:=⟨bv,ov,none⟩) hbv7).trans HC7.out;have hd30:(strOf aD).size=30:=by rw[strOf_size];rfl
   have HF:=Hd (below_then HB7.out hb79);unfold maxLen at hvc2;clear hn8 hb8 hb89 hx9 hb79 hxx G3 HX7 HC7 HB7;go_wp2_with fail;go_ret;exact⟨rfl,HF.out⟩
open Go.RowKit
theorem info_Cc:RowInfo Tryz.prog 145 4 80:=row_info (by kernel_rfl)
open Go.RowKit
theorem plain20_leaf {n:Nat} {F:Nat→Prop} {w:World} {cs:List Value} {p:Int} {l:List (List UInt8×Tv)} (hF:∀b,F b→b<w.heap.size) (h:NodeOn F (n+1) w cs (.leaf p l)) (hm:l.length≤1000) :
 Calls Tryz.prog 18 #[.agg cs.toArray] w (RNodeTo F (n+1) w (.leaf p l)):=by
 obtain⟨ka,kn,kc,va,vn,vc,ca,cc,rfl,h1,f1,h2,f2,h3⟩:=h;obtain⟨e1,e2,e3⟩:=h1.lens;obtain⟨e4,e5,e6⟩:=h2.lens;have hkl:(keysOf l).length=l.length:=by simp[keysOf]
 obtain rfl:kn=vn:=by rw[List.length_map] at e4;omega
 have hcl:(cellsR (.leaf p l)).length=kn:=by rw[cellsR_len];show l.length=kn;omega
 have hkn:kn≤1000:=by omega
 have HH1:=Hd h1;have HV:=Hd h2;have hB0:Below w.heap.size w (((w.alloc (.cells #[.int .i64 p,.bool true,.slice ka kn kc,.slice va kn vc,.slice ca 0 cc] 50)).alloc (.cells #[.int .i64 0,.bool false,.slice none 0 0] 27)).alloc (.cells #[.int .i64 p,.bool true,.slice none 0 0] 27)):=Below.al (Below.al (Below.al (Below.refl _ _)));have HX0:Hid (Boxes _ [(w.heap.size+1+1,[.int .i64 p,.bool true,.slice none 0 0]),(w.heap.size+1,[.int .i64 0,.bool false,.slice none 0 0]),(w.heap.size,[.int .i64 p,.bool true,.slice ka kn kc,.slice va kn vc,.slice ca 0 cc])]):=Hd ((((Boxes.nil w).alloc #[.int .i64 p,.bool true,.slice ka kn kc,.slice va kn vc,.slice ca 0 cc] 50 (b:=w.heap.size) rfl).alloc #[.int .i64 0,.bool false,.slice none 0 0] 27 (b:=w.heap.size+1) (by simp)).alloc #[.int .i64 p,.bool true,.slice none 0 0] 27 (b:=w.heap.size+1+1) (by simp));have HB0:=Hd hB0;have HCL:=Hd hcl;clear h1 f1 h2 h3 hB0 e1 e4 hcl hkl e5 e6;go_enter Tryz.func18,Tryz.ntmps18;go_wp2_with fail
 go_loopw [4,5] (fun s4 _ wr=>∃(i:Nat) (v:Value),i≤kn∧s4=.int .i64 i∧Boxes wr [(w.heap.size+1+1,[.int .i64 p,.bool true,v]),(w.heap.size+1,[.int .i64 0,.bool false,.slice none 0 0]),(w.heap.size,[.int .i64 p,.bool true,.slice ka kn kc,.slice va kn vc,.slice ca 0 cc])]∧CellsOwn 145 F n (w.heap.size+3) wr v ((cellsR (.leaf p l)).take i)∧Below w.heap.size w wr) (fun s _ _=>kn-(intOf s).toNat)
 case atStart=>exact⟨0,_,Nat.zero_le _,rfl,HX0.out,CellsOwn.nil _ _ _ _ _,HB0.out⟩
 case round=>
  have zm:=Mk.i 905427;exact q3e75f7
theorem plain20_node {n:Nat} (IH:∀{F:Nat→Prop} {w:World} {cs:List Value} {t:Tr},(∀b,F b→b<w.heap.size)→NodeOn F n w cs t→Bnd n t→Calls Tryz.prog 18 #[.agg cs.toArray] w (RNodeTo F n w t)) {F:Nat→Prop} {w:World} {cs:List Value} {p:Int} {l:List (List UInt8×Tr)} (hF:∀b,F b→b<w.heap.size) (h:NodeOn F (n+1) w cs (.node p l)) (hm:l.length≤1000) (hbk:∀c∈l,Bnd n c.2) :
 Calls Tryz.prog 18 #[.agg cs.toArray] w (RNodeTo F (n+1) w (.node p l)):=by
 obtain⟨ka,kn,kc,va,vc,ca,cn,cc,rfl,h1,f1,h2,h3,f3⟩:=h;obtain⟨e1,e2,e3⟩:=h1.lens;obtain⟨e4,e5,e6⟩:=h3.lens;have hkl:(keysOf l).length=l.length:=by simp[keysOf]
 obtain rfl:kn=cn:=by rw[List.length_map] at e4;omega
 have hcl:(cellsR (.node p l)).length=kn:=by rw[cellsR_len];show l.length=kn;omega
 have hkn:kn≤1000:=by omega
 have HH1:=Hd h1;have HV:=Hd h3;have hB0:Below w.heap.size w (((w.alloc (.cells #[.int .i64 p,.bool false,.slice ka kn kc,.slice va 0 vc,.slice ca kn cc] 50)).alloc (.cells #[.int .i64 0,.bool false,.slice none 0 0] 27)).alloc (.cells #[.int .i64 p,.bool false,.slice none 0 0] 27)):=Below.al (Below.al (Below.al (Below.refl _ _)));have HX0:Hid (Boxes _ [(w.heap.size+1+1,[.int .i64 p,.bool false,.slice none 0 0]),(w.heap.size+1,[.int .i64 0,.bool false,.slice none 0 0]),(w.heap.size,[.int .i64 p,.bool false,.slice ka kn kc,.slice va 0 vc,.slice ca kn cc])]):=Hd ((((Boxes.nil w).alloc #[.int .i64 p,.bool false,.slice ka kn kc,.slice va 0 vc,.slice ca kn cc] 50 (b:=w.heap.size) rfl).alloc #[.int .i64 0,.bool false,.slice none 0 0] 27 (b:=w.heap.size+1) (by simp)).alloc #[.int .i64 p,.bool false,.slice none 0 0] 27 (b:=w.heap.size+1+1) (by simp));have HB0:=Hd hB0;have HCL:=Hd hcl;clear h1 f1 h2 h3 hB0 e1 e4 hcl hkl;go_enter Tryz.func18,Tryz.ntmps18;go_wp2_with fail
 go_loopw [4,5] (fun s4 _ wr=>∃(i:Nat) (v:Value),i≤kn∧s4=.int .i64 i∧Boxes wr [(w.heap.size+1+1,[.int .i64 p,.bool false,v]),(w.heap.size+1,[.int .i64 0,.bool false,.slice none 0 0]),(w.heap.size,[.int .i64 p,.bool false,.slice ka kn kc,.slice va 0 vc,.slice ca kn cc])]∧CellsOwn 145 F n (w.heap.size+3) wr v ((cellsR (.node p l)).take i)∧Below w.heap.size w wr) (fun s _ _=>kn-(intOf s).toNat)
 case atStart=>exact⟨0,_,Nat.zero_le _,rfl,HX0.out,CellsOwn.nil _ _ _ _ _,HB0.out⟩
 case round=>
  have zm:=Mk.i 49839;exact q3e75f7
theorem plain20_any:∀{n:Nat} {F:Nat→Prop} {w:World} {cs:List Value} {t:Tr},(∀b,F b→b<w.heap.size)→NodeOn F n w cs t→Bnd n t→Calls Tryz.prog 18 #[.agg cs.toArray] w (RNodeTo F n w t)
 | 0,_,_,_,_,_,h,_=>h.elim
 | _n+1,_,_,_,.leaf _p _l,hF,h,hb=>plain20_leaf hF h hb.1
 | _n+1,_,_,_,.node _p _l,hF,h,hb=>plain20_node (fun hF h hb=>plain20_any hF h hb) hF h hb.1 (fun c hc=>(hb.2 c hc).2)
end Go.Proofs.YtpghlmcoajaiiaaGreatDoor
