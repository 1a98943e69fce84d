/- Texts that other texts of this claim lean on, one behind the other. -/
import Derived.Test.YtpghlmcoajaiiaaGreatDoorB1
import Derived.Test.YtpghlmcoajaiiaaGreatDoorB7
import Derived.IntWalk
import Derived.Test.YtpghlmcoajaiiaaGreatDoorB3
set_option maxHeartbeats 20000000
set_option maxRecDepth 100000
namespace Go.Proofs.YtpghlmcoajaiiaaGreatDoor
open Go.RowKit
theorem bytes_less:∀(x y:List UInt8),Op.bytesLess x y=decide (x<y)
 | [],[]=>by simp[Op.bytesLess]
 | _::_,[]=>by simp[Op.bytesLess]
 | [],_::_=>by simp[Op.bytesLess]
 | a::x,b::y=>by
  rw[Op.bytesLess,bytes_less x y];simp only[List.cons_lt_cons_iff]
  by_cases h1:a<b<;>by_cases h2:a=b<;>by_cases h3:x<y<;>simp[h1,h2,h3]
theorem cellN_len (leaf:Bool) (e:En):(cellN leaf e).length≤261+e.v.data.length:=by
 rw[cellN,List.length_append,textF_length,encV_length];cases leaf<;>cases e.v.far<;>simp<;>omega
theorem cellsN_lens (leaf:Bool) (M:Nat):∀l:List En,(∀e∈l,e.v.data.length≤M)→lens (cellsN leaf l)≤l.length*(261+M)
 | [],_=>by simp[cellsN,lens]
 | e::l,h=>by
  have ih:=cellsN_lens leaf M l (fun x hx=>h x (by simp[hx]));have h1:=cellN_len leaf e;have h2:=h e (by simp);have e1:lens (cellsN leaf (e::l))=(cellN leaf e).length+lens (cellsN leaf l):=by simp[cellsN,lens]
  rw[e1,List.length_cons,Nat.add_mul];omega
def SmE (l:List En):Prop:=∀e∈l,e.key.length≤1000000∧e.v.data.length≤1000000
theorem nodeB_step {leaf:Bool} {l:List En} {k:Nat} (hk:k<l.length) (h:stepN leaf l k=false):nodeB leaf l=false:=by
 have h1:upN leaf l (k+1)=false:=by rw[upN_succ,h,Bool.and_false]
 rw[nodeB,upN_mono leaf l h1 hk];rfl
theorem check_leaf (a:Option Addr) (len cap:Nat) (l:List En) (w:World) (h:NEnts w a len cap l) (hlen:len≤65536) (hd:SmE l) :
 Calls Tryz.prog 140 #[.agg #[.bool true,.slice a len cap]] w fun e w'=>e=.returned (.bool (nodeB true l))∧Below w.heap.size w w':=by
 have hB:=below_one w (.cells #[.bool true,.slice a len cap] 205);have BX:=(Boxes.nil w).alloc #[.bool true,.slice a len cap] 205 rfl;have SH:=fun W=>shapes_any W
 have KI:∀W,Calls Tryz.prog 174 #[.agg #[.bool true,.slice a len cap]] W fun e w'=>e=.returned (.int .u8 1)∧Below W.heap.size W w':=fun W=>kind_any true (.slice a len cap) W
 go_enter Tryz.func140,Tryz.ntmps140;go_wp2_with fail;have h1:=h.below (Nat.le_refl _) hB;generalize w.alloc _=W1 at *;have c0:∀W,Below W1.heap.size W1 W→W.cell? ⟨w.heap.size,0,none⟩=some (.bool true):=fun W hW=>(BX.step hW).cell 0 0 rfl rfl
 have c1:∀W,Below W1.heap.size W1 W→W.cell? ⟨w.heap.size,1,none⟩=some (.slice a len cap):=fun W hW=>(BX.step hW).cell 0 1 rfl rfl
 have hC:Below W1.heap.size W1 W1.drew:=(Below.refl _ _).drew;go_upto_region 1 with(fail)
 go_cut [3] (fun s wx=>s=.iface 273 (.agg #[])∧Below W1.heap.size W1 wx)
 case first=>
  exact q8ba21e
 case rest=>
 obtain⟨rfl,hC4⟩:=hcut;have hb:=below_then hB hC4;have BX:=BX.step hC4;have hll:=Hd h1.len;clear c0 c1 hC hC4 h1 hB SH KI;have d1:=BX.cell 0 1 rfl rfl;go_wp2_with fail;clear d1;have HI:=Hd hd;clear hd;have HB:=Hd hb;clear hb;have HX:=Hd BX;clear BX
 go_loopw [14] (fun i wr=>∃(k:Nat),k≤len∧i=.int .i64 k∧upN true l k=true∧Boxes wr [(w.heap.size,[.bool true,.slice a len cap])]∧Below w.heap.size w wr) (fun i _=>len-(intOf i).toNat)
 case atStart=>exact⟨0,Nat.zero_le _,rfl,rfl,HX.out,HB.out⟩
 case round=>
  obtain⟨k,hk,rfl,hup,BX,hbw⟩:=hrel;have hkl:k<9223372036854775807:=by omega
  by_cases hlt:k<len
  ·obtain⟨b,off,e,rfl,hbb,hy,e0,e1,e2,e3,e4⟩:=(h.below (Nat.le_refl _) hbw).at hlt
   have B6:=BX.alloc #[.string (strOf e.key),.string (strOf e.v.data),.bool e.v.far,.int .i64 e.v.size,.int .i64 e.v.page] 211 rfl;have hb6:=below_one wr (.cells #[.string (strOf e.key),.string (strOf e.v.data),.bool e.v.far,.int .i64 e.v.size,.int .i64 e.v.page] 211);have hbw6:=below_then hbw hb6;have hr6:=(h.below (Nat.le_refl _) hbw6)
   obtain⟨hl1,hl2⟩:=HI.out e (List.mem_of_getElem? hy);have M1:∀W,Calls Tryz.prog 230 #[.agg #[],.int .i64 (k:Int),.agg #[.string (strOf e.key),.string (strOf e.v.data),.bool e.v.far,.int .i64 e.v.size,.int .i64 e.v.page]] W fun en w'=>en=.returned (.bool (mayN true k e))∧Below W.heap.size W w':=fun W=>mayL_any e k W (by omega)
   have hmp:=m_mayL;have hgd:l[k]?.getD ⟨[],Vv.zero⟩=e:=by rw[hy];rfl
   have hst:stepN true l k=(mayN true k e && !(decide (0<k) && kle e.key (l[k-1]?.getD ⟨[],Vv.zero⟩).key)):=by rw[stepN,hgd]
   have hus:upN true l (k+1)=stepN true l k:=by rw[upN_succ,hup,Bool.true_and]
   have HST:=Hd hst;have HUS:=Hd hus;have HGD:=Hd hgd;have hsize:b<wr.heap.size:=hbb;clear hb6 hst hus hup hgd BX hbb;cases hm:mayN true k e with
   | false=>
    rw[hm] at M1;have HF:Hid (nodeB true l=false):=Hd (nodeB_step (by rw[hll.out];exact hlt) (by rw[HST.out,hm];rfl));clear hm;go_wp2_with fail;generalize wr.heap.size=bx at *;generalize wr.alloc _=W6 at *;have c0:∀W,Below W6.heap.size W6 W→W.cell? ⟨bx,0,none⟩=some (.string (strOf e.key)):=fun W hW=>(B6.step hW).cell 0 0 rfl rfl
    have c1:∀W,Below W6.heap.size W6 W→W.cell? ⟨bx,1,none⟩=some (.string (strOf e.v.data)):=fun W hW=>(B6.step hW).cell 0 1 rfl rfl
    have c2:∀W,Below W6.heap.size W6 W→W.cell? ⟨bx,2,none⟩=some (.bool e.v.far):=fun W hW=>(B6.step hW).cell 0 2 rfl rfl
    have c3:∀W,Below W6.heap.size W6 W→W.cell? ⟨bx,3,none⟩=some (.int .i64 e.v.size):=fun W hW=>(B6.step hW).cell 0 3 rfl rfl
    have c4:∀W,Below W6.heap.size W6 W→W.cell? ⟨bx,4,none⟩=some (.int .i64 e.v.page):=fun W hW=>(B6.step hW).cell 0 4 rfl rfl
    have hC:Below W6.heap.size W6 W6.drew:=(Below.refl _ _).drew;refine wp_region_noPanic ?_;refine wp_region_held_drew (S:=fun W=>Below W6.heap.size W6 W) (by kernel_rfl) (by with_reducible assumption) (fun hHeld=>?_);refine tks [0,1,2] ?_;refine rdy 3 (fun K hK=>?_);rw[if_pos (by rfl)]
    go_wp2_with (first|(go_at_call 230;(with_reducible refine(M1 _).mono ?_);rintro e1 w7 ⟨rfl,hb7⟩;have hC7:=hC.trans (hb7.mono hC.size)))
    exact qcc5afb
   | true=>
    rw[hm] at M1
    by_cases hk0:k=0
    ·subst hk0
     have HU:Hid (upN true l (0+1)=true):=Hd (by rw[HUS.out,HST.out,hm];rfl);clear hm HGD;simp only[Nat.zero_mul,Nat.add_zero] at e0 e1 e2 e3 e4;have M1:∀W,Calls Tryz.prog 230 #[.agg #[],.int .i64 0,.agg #[.string (strOf e.key),.string (strOf e.v.data),.bool e.v.far,.int .i64 e.v.size,.int .i64 e.v.page]] W fun en w'=>en=.returned (.bool true)∧Below W.heap.size W w':=M1
     go_wp2_with fail;generalize wr.heap.size=bx at *;generalize wr.alloc _=W6 at *;have c0:∀W,Below W6.heap.size W6 W→W.cell? ⟨bx,0,none⟩=some (.string (strOf e.key)):=fun W hW=>(B6.step hW).cell 0 0 rfl rfl
     have c1:∀W,Below W6.heap.size W6 W→W.cell? ⟨bx,1,none⟩=some (.string (strOf e.v.data)):=fun W hW=>(B6.step hW).cell 0 1 rfl rfl
     have c2:∀W,Below W6.heap.size W6 W→W.cell? ⟨bx,2,none⟩=some (.bool e.v.far):=fun W hW=>(B6.step hW).cell 0 2 rfl rfl
     have c3:∀W,Below W6.heap.size W6 W→W.cell? ⟨bx,3,none⟩=some (.int .i64 e.v.size):=fun W hW=>(B6.step hW).cell 0 3 rfl rfl
     have c4:∀W,Below W6.heap.size W6 W→W.cell? ⟨bx,4,none⟩=some (.int .i64 e.v.page):=fun W hW=>(B6.step hW).cell 0 4 rfl rfl
     have hC:Below W6.heap.size W6 W6.drew:=(Below.refl _ _).drew;refine wp_region_noPanic ?_;refine wp_region_held_drew (S:=fun W=>Below W6.heap.size W6 W) (by kernel_rfl) (by with_reducible assumption) (fun hHeld=>?_);refine tks [0,1,2] ?_;refine rdy 3 (fun K hK=>?_);rw[if_pos (by rfl)]
     go_wp2_with (first|(go_at_call 230;(with_reducible refine(M1 _).mono ?_);rintro e1 w7 ⟨rfl,hb7⟩;have hC7:=hC.trans (hb7.mono hC.size)))
     refine bkw hK (by with_reducible assumption) (fun hHeld=>?_);clear hK K;refine tks [4,5] ?_;refine tks [6,7,8] ?_;refine tkn [9,10] ?_;refine tkn [11,12] ?_;refine tkn [13,14] ?_;refine tkn [15,16] ?_;refine tkn [17,18] ?_;refine tks [19,20] ?_;refine wpAnyH_done (by kernel_rfl) ?_ _;refine NoPanic.normal ?_;have hb8:=below_then hbw6 hC7;have B8:=(B6.step hC7).sub (m:=[(w.heap.size,[.bool true,.slice (some ⟨b,off,none⟩) len cap])]) (by intro p hp;simp at hp;subst hp;simp);clear hC hC7 hb7 B6 hr6;go_wp2_with fail;go_roundw
     case rel=>exact⟨0+1,by omega,by go_num,HU.out,B8,hb8⟩
     case measure=>simp[intOf];omega
    ·obtain⟨p,hp1,hp2⟩:∃p,p+1=k∧p<len:=⟨k-1,by omega,by omega⟩
     obtain⟨b2,off2,e',hq,hb2l,hy2,hc',_⟩:=(h.below (Nat.le_refl _) hbw).at hp2;cases hq;have hg2:l[k-1]?.getD ⟨[],Vv.zero⟩=e':=by rw[show k-1=p by omega,hy2];rfl
     have hst2:stepN true l k = !kle e.key e'.key:=by rw[HST.out,hm,hg2,show decide (0<k)=true by simp;omega];simp
     have hsub:IntKind.i64.wrap ((k:Int)-1)=(p:Int):=by
      have:=IntWalk.i64_in ((k:Int)-1) (by omega);omega
     have hk1:decide ((0:Int)<(k:Int))=true:=by simp;omega
     have hk1n:decide (0<k)=true:=by simp;omega
     have hk1p:0<k:=by omega
     have hpp:(0:Int)≤(p:Int)∧(p:Int)<(len:Int):=by omega
     have HPC:=Hd hc';have HSB:=Hd hsub;have hp6:(wr.alloc (.cells #[.string (strOf e.key),.string (strOf e.v.data),.bool e.v.far,.int .i64 e.v.size,.int .i64 e.v.page] 211)).cell? ⟨b,off+p*5,none⟩=some (.string (strOf e'.key)):=((below_one wr _).cell (p:=⟨b,off+p*5,none⟩) hb2l).trans hc';have hbl6:b<(wr.alloc (.cells #[.string (strOf e.key),.string (strOf e.v.data),.bool e.v.far,.int .i64 e.v.size,.int .i64 e.v.page] 211)).heap.size:=by simp;omega
     clear hg2 hm hy2 hc' hb2l;have hkp:k=p+1:=hp1.symm;cases hke:kle e.key e'.key with
     | true=>
      have HF:Hid (nodeB true l=false):=Hd (nodeB_step (k:=k) (by rw[hll.out];omega) (by rw[hst2,hke];rfl));have hlq:(Op.bytesLess (strOf e.key).toList (strOf e'.key).toList || (strOf e.key).toList == (strOf e'.key).toList)=true:=by rw[strOf_toList,strOf_toList,bytes_less];exact hke
      clear hst2 hke HST HGD HUS HPC HSB hkp hp1 hp2 hsize;go_wp2_with fail;generalize wr.heap.size=bx at *;generalize wr.alloc _=W6 at *;have c0:∀W,Below W6.heap.size W6 W→W.cell? ⟨bx,0,none⟩=some (.string (strOf e.key)):=fun W hW=>(B6.step hW).cell 0 0 rfl rfl
      have c1:∀W,Below W6.heap.size W6 W→W.cell? ⟨bx,1,none⟩=some (.string (strOf e.v.data)):=fun W hW=>(B6.step hW).cell 0 1 rfl rfl
      have c2:∀W,Below W6.heap.size W6 W→W.cell? ⟨bx,2,none⟩=some (.bool e.v.far):=fun W hW=>(B6.step hW).cell 0 2 rfl rfl
      have c3:∀W,Below W6.heap.size W6 W→W.cell? ⟨bx,3,none⟩=some (.int .i64 e.v.size):=fun W hW=>(B6.step hW).cell 0 3 rfl rfl
      have c4:∀W,Below W6.heap.size W6 W→W.cell? ⟨bx,4,none⟩=some (.int .i64 e.v.page):=fun W hW=>(B6.step hW).cell 0 4 rfl rfl
      have d1:∀W,Below W6.heap.size W6 W→W.cell? ⟨w.heap.size,1,none⟩=some (.slice (some ⟨b,off,none⟩) len cap):=fun W hW=>(B6.step hW).cell 1 1 rfl rfl
      have p0:∀W,Below W6.heap.size W6 W→W.cell? ⟨b,off+p*5,none⟩=some (.string (strOf e'.key)):=fun W hW=>(hW.cell (p:=⟨b,off+p*5,none⟩) hbl6).trans hp6
      have hC:Below W6.heap.size W6 W6.drew:=(Below.refl _ _).drew;refine wp_region_noPanic ?_;refine wp_region_held_drew (S:=fun W=>Below W6.heap.size W6 W) (by kernel_rfl) (by with_reducible assumption) (fun hHeld=>?_);refine tks [0,1,2] ?_;refine rdy 3 (fun K hK=>?_);rw[if_pos (by rfl)]
      go_wp2_with (first|(go_at_call 230;(with_reducible refine(M1 _).mono ?_);rintro e1 w7 ⟨rfl,hb7⟩;have hC7:=hC.trans (hb7.mono hC.size)))
      exact qc817f7
     | false=>
      have HU:Hid (upN true l (k+1)=true):=Hd (by rw[HUS.out,hst2,hke];rfl);have hlq:(Op.bytesLess (strOf e.key).toList (strOf e'.key).toList || (strOf e.key).toList == (strOf e'.key).toList)=false:=by rw[strOf_toList,strOf_toList,bytes_less];exact hke
      have hlq1:=(Bool.or_eq_false_iff.1 hlq).1;have hlq2:=(Bool.or_eq_false_iff.1 hlq).2;clear hst2 hke HST HGD HUS HPC HSB hkp hp1 hp2 hsize;go_wp2_with fail;generalize wr.heap.size=bx at *;generalize wr.alloc _=W6 at *;have c0:∀W,Below W6.heap.size W6 W→W.cell? ⟨bx,0,none⟩=some (.string (strOf e.key)):=fun W hW=>(B6.step hW).cell 0 0 rfl rfl
      have c1:∀W,Below W6.heap.size W6 W→W.cell? ⟨bx,1,none⟩=some (.string (strOf e.v.data)):=fun W hW=>(B6.step hW).cell 0 1 rfl rfl
      have c2:∀W,Below W6.heap.size W6 W→W.cell? ⟨bx,2,none⟩=some (.bool e.v.far):=fun W hW=>(B6.step hW).cell 0 2 rfl rfl
      have c3:∀W,Below W6.heap.size W6 W→W.cell? ⟨bx,3,none⟩=some (.int .i64 e.v.size):=fun W hW=>(B6.step hW).cell 0 3 rfl rfl
      have c4:∀W,Below W6.heap.size W6 W→W.cell? ⟨bx,4,none⟩=some (.int .i64 e.v.page):=fun W hW=>(B6.step hW).cell 0 4 rfl rfl
      have d1:∀W,Below W6.heap.size W6 W→W.cell? ⟨w.heap.size,1,none⟩=some (.slice (some ⟨b,off,none⟩) len cap):=fun W hW=>(B6.step hW).cell 1 1 rfl rfl
      have p0:∀W,Below W6.heap.size W6 W→W.cell? ⟨b,off+p*5,none⟩=some (.string (strOf e'.key)):=fun W hW=>(hW.cell (p:=⟨b,off+p*5,none⟩) hbl6).trans hp6
      have hC:Below W6.heap.size W6 W6.drew:=(Below.refl _ _).drew;refine wp_region_noPanic ?_;refine wp_region_held_drew (S:=fun W=>Below W6.heap.size W6 W) (by kernel_rfl) (by with_reducible assumption) (fun hHeld=>?_);refine tks [0,1,2] ?_;refine rdy 3 (fun K hK=>?_);rw[if_pos (by rfl)]
      go_wp2_with (first|(go_at_call 230;(with_reducible refine(M1 _).mono ?_);rintro e1 w7 ⟨rfl,hb7⟩;have hC7:=hC.trans (hb7.mono hC.size)))
      refine bkw hK (by with_reducible assumption) (fun hHeld=>?_);clear hK K;refine tks [4,5] ?_;refine tks [6,7] ?_;refine tks [8,9] ?_;refine tks [10,11] ?_;refine tks [12,13] ?_;refine tks [14,15] ?_;refine tks [16,17] ?_;refine tks [18,19,20] ?_;refine wpAnyH_done (by kernel_rfl) ?_ _;refine NoPanic.normal ?_;have hb8:=below_then hbw6 hC7;have B8:=(B6.step hC7).sub (m:=[(w.heap.size,[.bool true,.slice (some ⟨b,off,none⟩) len cap])]) (by intro p hp;simp at hp;subst hp;simp);exact qbdac8e
  ·obtain rfl:k=len:=by omega
   have hup2:upN true l l.length=true:=by rw[hll.out];exact hup
   have hsm:=HI.out;have hr:=h.below (Nat.le_refl _) hbw;have hlens:=cellsN_lens true 1000000 l (fun e he=>(hsm e he).2);rw[hll.out] at hlens;have hlb:lens (cellsN true l)≤65553104896:=by omega
   have LE:=fun W=>leastL_any W
   have CE:∀W,Below wr.heap.size wr W→Calls Tryz.prog 176 #[.agg #[.bool true,.slice a k cap]] W (BssPost W (cellsN true l)):=fun W hW=>cells_any true a k cap l W (hr.below (Nat.le_refl _) hW) hlen (fun e he=>by have:=hsm e he;omega)
   have CS:∀W a2 n2 c2,n2=(cellsN true l).length→Bss W a2 n2 c2 (cellsN true l)→Calls Tryz.prog 175 #[.slice a2 n2 c2] W fun e w'=>e=.returned (.int .i64 ((k+lens (cellsN true l):Nat):Int))∧W=w':=fun W a2 n2 c2 h1 h2=>by
    have hk2:n2=k:=by rw[h1,cellsN_length,hll.out]
    subst hk2;exact csize_any a2 n2 c2 (cellsN true l) W h2 (by omega)
   have d0:∀W,Below wr.heap.size wr W→W.cell? ⟨w.heap.size,0,none⟩=some (.bool true):=fun W hW=>(BX.step hW).cell 0 0 rfl rfl
   have d1:∀W,Below wr.heap.size wr W→W.cell? ⟨w.heap.size,1,none⟩=some (.slice a k cap):=fun W hW=>(BX.step hW).cell 0 1 rfl rfl
   have hC:Below wr.heap.size wr wr.drew:=(Below.refl _ _).drew;have hN:nodeB true l=(decide (1≤k) && decide (k+lens (cellsN true l)≤122)):=by rw[nodeB,hup2,hll.out];rfl
   have HN:=Hd hN;have hml:=m_leastL;clear hN hup hup2 hsm hlens hlb BX hr
   by_cases hge:1≤k
   ·have hg1:decide ((1:Int)≤(k:Int))=true:=by simp;omega
    have hg2:decide (1≤k)=true:=by simp;omega
    have hg3:(1:Int)≤(k:Int):=by omega
    go_wp2_with fail;refine wp_region_noPanic ?_;refine wp_region_held_drew (S:=fun W=>Below wr.heap.size wr W) (by kernel_rfl) (by with_reducible assumption) (fun hHeld=>?_);refine tks [0,1] ?_;refine tks [2,3] ?_;refine rdy 4 (fun K hK=>?_);rw[if_pos (by rfl)]
    go_wp2_with (first|(go_at_call 229;(with_reducible refine(LE _).mono ?_);rintro e1 w7 ⟨rfl,hb7⟩;have hC7:=hC.trans (hb7.mono hC.size)))
    exact qdf05d4
   ·have hg1:decide ((1:Int)≤(k:Int))=false:=by simp;omega
    have hg2:decide (1≤k)=false:=by simp;omega
    go_wp2_with fail;refine wp_region_noPanic ?_;refine wp_region_held_drew (S:=fun W=>Below wr.heap.size wr W) (by kernel_rfl) (by with_reducible assumption) (fun hHeld=>?_);refine tks [0,1] ?_;refine tks [2,3] ?_;refine rdy 4 (fun K hK=>?_);rw[if_pos (by rfl)]
    go_wp2_with (first|(go_at_call 229;(with_reducible refine(LE _).mono ?_);rintro e1 w7 ⟨rfl,hb7⟩;have hC7:=hC.trans (hb7.mono hC.size)))
    exact qe9cca3
theorem check_branch (a:Option Addr) (len cap:Nat) (l:List En) (w:World) (h:NEnts w a len cap l) (hlen:len≤65536) (hd:SmE l) :
 Calls Tryz.prog 140 #[.agg #[.bool false,.slice a len cap]] w fun e w'=>e=.returned (.bool (nodeB false l))∧Below w.heap.size w w':=by
 have hB:=below_one w (.cells #[.bool false,.slice a len cap] 205);have BX:=(Boxes.nil w).alloc #[.bool false,.slice a len cap] 205 rfl;have SH:=fun W=>shapes_any W
 have KI:∀W,Calls Tryz.prog 174 #[.agg #[.bool false,.slice a len cap]] W fun e w'=>e=.returned (.int .u8 2)∧Below W.heap.size W w':=fun W=>kind_any false (.slice a len cap) W
 go_enter Tryz.func140,Tryz.ntmps140;go_wp2_with fail;have h1:=h.below (Nat.le_refl _) hB;generalize w.alloc _=W1 at *;have c0:∀W,Below W1.heap.size W1 W→W.cell? ⟨w.heap.size,0,none⟩=some (.bool false):=fun W hW=>(BX.step hW).cell 0 0 rfl rfl
 have c1:∀W,Below W1.heap.size W1 W→W.cell? ⟨w.heap.size,1,none⟩=some (.slice a len cap):=fun W hW=>(BX.step hW).cell 0 1 rfl rfl
 have hC:Below W1.heap.size W1 W1.drew:=(Below.refl _ _).drew;go_upto_region 1 with(fail)
 go_cut [3] (fun s wx=>s=.iface 315 (.agg #[])∧Below W1.heap.size W1 wx)
 case first=>
  exact q743a71
 case rest=>
 obtain⟨rfl,hC4⟩:=hcut;have hb:=below_then hB hC4;have BX:=BX.step hC4;have hll:=Hd h1.len;clear c0 c1 hC hC4 h1 hB SH KI;have d1:=BX.cell 0 1 rfl rfl;go_wp2_with fail;clear d1;have HI:=Hd hd;clear hd;have HB:=Hd hb;clear hb;have HX:=Hd BX;clear BX
 go_loopw [14] (fun i wr=>∃(k:Nat),k≤len∧i=.int .i64 k∧upN false l k=true∧Boxes wr [(w.heap.size,[.bool false,.slice a len cap])]∧Below w.heap.size w wr) (fun i _=>len-(intOf i).toNat)
 case atStart=>exact⟨0,Nat.zero_le _,rfl,rfl,HX.out,HB.out⟩
 case round=>
  obtain⟨k,hk,rfl,hup,BX,hbw⟩:=hrel;have hkl:k<9223372036854775807:=by omega
  by_cases hlt:k<len
  ·obtain⟨b,off,e,rfl,hbb,hy,e0,e1,e2,e3,e4⟩:=(h.below (Nat.le_refl _) hbw).at hlt
   have B6:=BX.alloc #[.string (strOf e.key),.string (strOf e.v.data),.bool e.v.far,.int .i64 e.v.size,.int .i64 e.v.page] 211 rfl;have hb6:=below_one wr (.cells #[.string (strOf e.key),.string (strOf e.v.data),.bool e.v.far,.int .i64 e.v.size,.int .i64 e.v.page] 211);have hbw6:=below_then hbw hb6;have hr6:=(h.below (Nat.le_refl _) hbw6)
   obtain⟨hl1,hl2⟩:=HI.out e (List.mem_of_getElem? hy);have M1:∀W,Calls Tryz.prog 237 #[.agg #[],.int .i64 (k:Int),.agg #[.string (strOf e.key),.string (strOf e.v.data),.bool e.v.far,.int .i64 e.v.size,.int .i64 e.v.page]] W fun en w'=>en=.returned (.bool (mayN false k e))∧Below W.heap.size W w':=fun W=>mayB_any e k W (by omega)
   have hmp:=m_mayB;have hgd:l[k]?.getD ⟨[],Vv.zero⟩=e:=by rw[hy];rfl
   have hst:stepN false l k=(mayN false k e && !(decide (0<k) && kle e.key (l[k-1]?.getD ⟨[],Vv.zero⟩).key)):=by rw[stepN,hgd]
   have hus:upN false l (k+1)=stepN false l k:=by rw[upN_succ,hup,Bool.true_and]
   have HST:=Hd hst;have HUS:=Hd hus;have HGD:=Hd hgd;have hsize:b<wr.heap.size:=hbb;clear hb6 hst hus hup hgd BX hbb;cases hm:mayN false k e with
   | false=>
    rw[hm] at M1;have HF:Hid (nodeB false l=false):=Hd (nodeB_step (by rw[hll.out];exact hlt) (by rw[HST.out,hm];rfl));clear hm;go_wp2_with fail;generalize wr.heap.size=bx at *;generalize wr.alloc _=W6 at *;have c0:∀W,Below W6.heap.size W6 W→W.cell? ⟨bx,0,none⟩=some (.string (strOf e.key)):=fun W hW=>(B6.step hW).cell 0 0 rfl rfl
    have c1:∀W,Below W6.heap.size W6 W→W.cell? ⟨bx,1,none⟩=some (.string (strOf e.v.data)):=fun W hW=>(B6.step hW).cell 0 1 rfl rfl
    have c2:∀W,Below W6.heap.size W6 W→W.cell? ⟨bx,2,none⟩=some (.bool e.v.far):=fun W hW=>(B6.step hW).cell 0 2 rfl rfl
    have c3:∀W,Below W6.heap.size W6 W→W.cell? ⟨bx,3,none⟩=some (.int .i64 e.v.size):=fun W hW=>(B6.step hW).cell 0 3 rfl rfl
    have c4:∀W,Below W6.heap.size W6 W→W.cell? ⟨bx,4,none⟩=some (.int .i64 e.v.page):=fun W hW=>(B6.step hW).cell 0 4 rfl rfl
    have hC:Below W6.heap.size W6 W6.drew:=(Below.refl _ _).drew;refine wp_region_noPanic ?_;refine wp_region_held_drew (S:=fun W=>Below W6.heap.size W6 W) (by kernel_rfl) (by with_reducible assumption) (fun hHeld=>?_);refine tks [0,1,2] ?_;refine rdy 3 (fun K hK=>?_);rw[if_pos (by rfl)]
    go_wp2_with (first|(go_at_call 237;(with_reducible refine(M1 _).mono ?_);rintro e1 w7 ⟨rfl,hb7⟩;have hC7:=hC.trans (hb7.mono hC.size)))
    exact qcc5afb
   | true=>
    rw[hm] at M1
    by_cases hk0:k=0
    ·subst hk0
     have HU:Hid (upN false l (0+1)=true):=Hd (by rw[HUS.out,HST.out,hm];rfl);clear hm HGD;simp only[Nat.zero_mul,Nat.add_zero] at e0 e1 e2 e3 e4;have M1:∀W,Calls Tryz.prog 237 #[.agg #[],.int .i64 0,.agg #[.string (strOf e.key),.string (strOf e.v.data),.bool e.v.far,.int .i64 e.v.size,.int .i64 e.v.page]] W fun en w'=>en=.returned (.bool true)∧Below W.heap.size W w':=M1
     go_wp2_with fail;generalize wr.heap.size=bx at *;generalize wr.alloc _=W6 at *;have c0:∀W,Below W6.heap.size W6 W→W.cell? ⟨bx,0,none⟩=some (.string (strOf e.key)):=fun W hW=>(B6.step hW).cell 0 0 rfl rfl
     have c1:∀W,Below W6.heap.size W6 W→W.cell? ⟨bx,1,none⟩=some (.string (strOf e.v.data)):=fun W hW=>(B6.step hW).cell 0 1 rfl rfl
     have c2:∀W,Below W6.heap.size W6 W→W.cell? ⟨bx,2,none⟩=some (.bool e.v.far):=fun W hW=>(B6.step hW).cell 0 2 rfl rfl
     have c3:∀W,Below W6.heap.size W6 W→W.cell? ⟨bx,3,none⟩=some (.int .i64 e.v.size):=fun W hW=>(B6.step hW).cell 0 3 rfl rfl
     have c4:∀W,Below W6.heap.size W6 W→W.cell? ⟨bx,4,none⟩=some (.int .i64 e.v.page):=fun W hW=>(B6.step hW).cell 0 4 rfl rfl
     have hC:Below W6.heap.size W6 W6.drew:=(Below.refl _ _).drew;refine wp_region_noPanic ?_;refine wp_region_held_drew (S:=fun W=>Below W6.heap.size W6 W) (by kernel_rfl) (by with_reducible assumption) (fun hHeld=>?_);refine tks [0,1,2] ?_;refine rdy 3 (fun K hK=>?_);rw[if_pos (by rfl)]
     go_wp2_with (first|(go_at_call 237;(with_reducible refine(M1 _).mono ?_);rintro e1 w7 ⟨rfl,hb7⟩;have hC7:=hC.trans (hb7.mono hC.size)))
     refine bkw hK (by with_reducible assumption) (fun hHeld=>?_);clear hK K;refine tks [4,5] ?_;refine tks [6,7,8] ?_;refine tkn [9,10] ?_;refine tkn [11,12] ?_;refine tkn [13,14] ?_;refine tkn [15,16] ?_;refine tkn [17,18] ?_;refine tks [19,20] ?_;refine wpAnyH_done (by kernel_rfl) ?_ _;refine NoPanic.normal ?_;have hb8:=below_then hbw6 hC7;have B8:=(B6.step hC7).sub (m:=[(w.heap.size,[.bool false,.slice (some ⟨b,off,none⟩) len cap])]) (by intro p hp;simp at hp;subst hp;simp);clear hC hC7 hb7 B6 hr6;go_wp2_with fail;go_roundw
     case rel=>exact⟨0+1,by omega,by go_num,HU.out,B8,hb8⟩
     case measure=>simp[intOf];omega
    ·obtain⟨p,hp1,hp2⟩:∃p,p+1=k∧p<len:=⟨k-1,by omega,by omega⟩
     obtain⟨b2,off2,e',hq,hb2l,hy2,hc',_⟩:=(h.below (Nat.le_refl _) hbw).at hp2;cases hq;have hg2:l[k-1]?.getD ⟨[],Vv.zero⟩=e':=by rw[show k-1=p by omega,hy2];rfl
     have hst2:stepN false l k = !kle e.key e'.key:=by rw[HST.out,hm,hg2,show decide (0<k)=true by simp;omega];simp
     have hsub:IntKind.i64.wrap ((k:Int)-1)=(p:Int):=by
      have:=IntWalk.i64_in ((k:Int)-1) (by omega);omega
     have hk1:decide ((0:Int)<(k:Int))=true:=by simp;omega
     have hk1n:decide (0<k)=true:=by simp;omega
     have hk1p:0<k:=by omega
     have hpp:(0:Int)≤(p:Int)∧(p:Int)<(len:Int):=by omega
     have HPC:=Hd hc';have HSB:=Hd hsub;have hp6:(wr.alloc (.cells #[.string (strOf e.key),.string (strOf e.v.data),.bool e.v.far,.int .i64 e.v.size,.int .i64 e.v.page] 211)).cell? ⟨b,off+p*5,none⟩=some (.string (strOf e'.key)):=((below_one wr _).cell (p:=⟨b,off+p*5,none⟩) hb2l).trans hc';have hbl6:b<(wr.alloc (.cells #[.string (strOf e.key),.string (strOf e.v.data),.bool e.v.far,.int .i64 e.v.size,.int .i64 e.v.page] 211)).heap.size:=by simp;omega
     clear hg2 hm hy2 hc' hb2l;have hkp:k=p+1:=hp1.symm;cases hke:kle e.key e'.key with
     | true=>
      have HF:Hid (nodeB false l=false):=Hd (nodeB_step (k:=k) (by rw[hll.out];omega) (by rw[hst2,hke];rfl));have hlq:(Op.bytesLess (strOf e.key).toList (strOf e'.key).toList || (strOf e.key).toList == (strOf e'.key).toList)=true:=by rw[strOf_toList,strOf_toList,bytes_less];exact hke
      clear hst2 hke HST HGD HUS HPC HSB hkp hp1 hp2 hsize;go_wp2_with fail;generalize wr.heap.size=bx at *;generalize wr.alloc _=W6 at *;have c0:∀W,Below W6.heap.size W6 W→W.cell? ⟨bx,0,none⟩=some (.string (strOf e.key)):=fun W hW=>(B6.step hW).cell 0 0 rfl rfl
      have c1:∀W,Below W6.heap.size W6 W→W.cell? ⟨bx,1,none⟩=some (.string (strOf e.v.data)):=fun W hW=>(B6.step hW).cell 0 1 rfl rfl
      have c2:∀W,Below W6.heap.size W6 W→W.cell? ⟨bx,2,none⟩=some (.bool e.v.far):=fun W hW=>(B6.step hW).cell 0 2 rfl rfl
      have c3:∀W,Below W6.heap.size W6 W→W.cell? ⟨bx,3,none⟩=some (.int .i64 e.v.size):=fun W hW=>(B6.step hW).cell 0 3 rfl rfl
      have c4:∀W,Below W6.heap.size W6 W→W.cell? ⟨bx,4,none⟩=some (.int .i64 e.v.page):=fun W hW=>(B6.step hW).cell 0 4 rfl rfl
      have d1:∀W,Below W6.heap.size W6 W→W.cell? ⟨w.heap.size,1,none⟩=some (.slice (some ⟨b,off,none⟩) len cap):=fun W hW=>(B6.step hW).cell 1 1 rfl rfl
      have p0:∀W,Below W6.heap.size W6 W→W.cell? ⟨b,off+p*5,none⟩=some (.string (strOf e'.key)):=fun W hW=>(hW.cell (p:=⟨b,off+p*5,none⟩) hbl6).trans hp6
      have hC:Below W6.heap.size W6 W6.drew:=(Below.refl _ _).drew;refine wp_region_noPanic ?_;refine wp_region_held_drew (S:=fun W=>Below W6.heap.size W6 W) (by kernel_rfl) (by with_reducible assumption) (fun hHeld=>?_);refine tks [0,1,2] ?_;refine rdy 3 (fun K hK=>?_);rw[if_pos (by rfl)]
      go_wp2_with (first|(go_at_call 237;(with_reducible refine(M1 _).mono ?_);rintro e1 w7 ⟨rfl,hb7⟩;have hC7:=hC.trans (hb7.mono hC.size)))
      exact qc817f7
     | false=>
      have HU:Hid (upN false l (k+1)=true):=Hd (by rw[HUS.out,hst2,hke];rfl);have hlq:(Op.bytesLess (strOf e.key).toList (strOf e'.key).toList || (strOf e.key).toList == (strOf e'.key).toList)=false:=by rw[strOf_toList,strOf_toList,bytes_less];exact hke
      have hlq1:=(Bool.or_eq_false_iff.1 hlq).1;have hlq2:=(Bool.or_eq_false_iff.1 hlq).2;clear hst2 hke HST HGD HUS HPC HSB hkp hp1 hp2 hsize;go_wp2_with fail;generalize wr.heap.size=bx at *;generalize wr.alloc _=W6 at *;have c0:∀W,Below W6.heap.size W6 W→W.cell? ⟨bx,0,none⟩=some (.string (strOf e.key)):=fun W hW=>(B6.step hW).cell 0 0 rfl rfl
      have c1:∀W,Below W6.heap.size W6 W→W.cell? ⟨bx,1,none⟩=some (.string (strOf e.v.data)):=fun W hW=>(B6.step hW).cell 0 1 rfl rfl
      have c2:∀W,Below W6.heap.size W6 W→W.cell? ⟨bx,2,none⟩=some (.bool e.v.far):=fun W hW=>(B6.step hW).cell 0 2 rfl rfl
      have c3:∀W,Below W6.heap.size W6 W→W.cell? ⟨bx,3,none⟩=some (.int .i64 e.v.size):=fun W hW=>(B6.step hW).cell 0 3 rfl rfl
      have c4:∀W,Below W6.heap.size W6 W→W.cell? ⟨bx,4,none⟩=some (.int .i64 e.v.page):=fun W hW=>(B6.step hW).cell 0 4 rfl rfl
      have d1:∀W,Below W6.heap.size W6 W→W.cell? ⟨w.heap.size,1,none⟩=some (.slice (some ⟨b,off,none⟩) len cap):=fun W hW=>(B6.step hW).cell 1 1 rfl rfl
      have p0:∀W,Below W6.heap.size W6 W→W.cell? ⟨b,off+p*5,none⟩=some (.string (strOf e'.key)):=fun W hW=>(hW.cell (p:=⟨b,off+p*5,none⟩) hbl6).trans hp6
      have hC:Below W6.heap.size W6 W6.drew:=(Below.refl _ _).drew;refine wp_region_noPanic ?_;refine wp_region_held_drew (S:=fun W=>Below W6.heap.size W6 W) (by kernel_rfl) (by with_reducible assumption) (fun hHeld=>?_);refine tks [0,1,2] ?_;refine rdy 3 (fun K hK=>?_);rw[if_pos (by rfl)]
      go_wp2_with (first|(go_at_call 237;(with_reducible refine(M1 _).mono ?_);rintro e1 w7 ⟨rfl,hb7⟩;have hC7:=hC.trans (hb7.mono hC.size)))
      refine bkw hK (by with_reducible assumption) (fun hHeld=>?_);clear hK K;refine tks [4,5] ?_;refine tks [6,7] ?_;refine tks [8,9] ?_;refine tks [10,11] ?_;refine tks [12,13] ?_;refine tks [14,15] ?_;refine tks [16,17] ?_;refine tks [18,19,20] ?_;refine wpAnyH_done (by kernel_rfl) ?_ _;refine NoPanic.normal ?_;have hb8:=below_then hbw6 hC7;have B8:=(B6.step hC7).sub (m:=[(w.heap.size,[.bool false,.slice (some ⟨b,off,none⟩) len cap])]) (by intro p hp;simp at hp;subst hp;simp);exact qbdac8e
  ·obtain rfl:k=len:=by omega
   have hup2:upN false l l.length=true:=by rw[hll.out];exact hup
   have hsm:=HI.out;have hr:=h.below (Nat.le_refl _) hbw;have hlens:=cellsN_lens false 1000000 l (fun e he=>(hsm e he).2);rw[hll.out] at hlens;have hlb:lens (cellsN false l)≤65553104896:=by omega
   have LE:=fun W=>leastB_any W
   have CE:∀W,Below wr.heap.size wr W→Calls Tryz.prog 176 #[.agg #[.bool false,.slice a k cap]] W (BssPost W (cellsN false l)):=fun W hW=>cells_any false a k cap l W (hr.below (Nat.le_refl _) hW) hlen (fun e he=>by have:=hsm e he;omega)
   have CS:∀W a2 n2 c2,n2=(cellsN false l).length→Bss W a2 n2 c2 (cellsN false l)→Calls Tryz.prog 175 #[.slice a2 n2 c2] W fun e w'=>e=.returned (.int .i64 ((k+lens (cellsN false l):Nat):Int))∧W=w':=fun W a2 n2 c2 h1 h2=>by
    have hk2:n2=k:=by rw[h1,cellsN_length,hll.out]
    subst hk2;exact csize_any a2 n2 c2 (cellsN false l) W h2 (by omega)
   have d0:∀W,Below wr.heap.size wr W→W.cell? ⟨w.heap.size,0,none⟩=some (.bool false):=fun W hW=>(BX.step hW).cell 0 0 rfl rfl
   have d1:∀W,Below wr.heap.size wr W→W.cell? ⟨w.heap.size,1,none⟩=some (.slice a k cap):=fun W hW=>(BX.step hW).cell 0 1 rfl rfl
   have hC:Below wr.heap.size wr wr.drew:=(Below.refl _ _).drew;have hN:nodeB false l=(decide (2≤k) && decide (k+lens (cellsN false l)≤122)):=by rw[nodeB,hup2,hll.out];rfl
   have HN:=Hd hN;have hml:=m_leastB;clear hN hup hup2 hsm hlens hlb BX hr
   by_cases hge:2≤k
   ·have hg1:decide ((2:Int)≤(k:Int))=true:=by simp;omega
    have hg2:decide (2≤k)=true:=by simp;omega
    have hg3:(2:Int)≤(k:Int):=by omega
    go_wp2_with fail;refine wp_region_noPanic ?_;refine wp_region_held_drew (S:=fun W=>Below wr.heap.size wr W) (by kernel_rfl) (by with_reducible assumption) (fun hHeld=>?_);refine tks [0,1] ?_;refine tks [2,3] ?_;refine rdy 4 (fun K hK=>?_);rw[if_pos (by rfl)]
    go_wp2_with (first|(go_at_call 236;(with_reducible refine(LE _).mono ?_);rintro e1 w7 ⟨rfl,hb7⟩;have hC7:=hC.trans (hb7.mono hC.size)))
    exact qdf05d4
   ·have hg1:decide ((2:Int)≤(k:Int))=false:=by simp;omega
    have hg2:decide (2≤k)=false:=by simp;omega
    go_wp2_with fail;refine wp_region_noPanic ?_;refine wp_region_held_drew (S:=fun W=>Below wr.heap.size wr W) (by kernel_rfl) (by with_reducible assumption) (fun hHeld=>?_);refine tks [0,1] ?_;refine tks [2,3] ?_;refine rdy 4 (fun K hK=>?_);rw[if_pos (by rfl)]
    go_wp2_with (first|(go_at_call 236;(with_reducible refine(LE _).mono ?_);rintro e1 w7 ⟨rfl,hb7⟩;have hC7:=hC.trans (hb7.mono hC.size)))
    exact qe9cca3
theorem check_any (leaf:Bool) (a:Option Addr) (len cap:Nat) (l:List En) (w:World) (h:NEnts w a len cap l) (hlen:len≤65536) (hd:SmE l) :
 Calls Tryz.prog 140 #[.agg #[.bool leaf,.slice a len cap]] w fun e w'=>e=.returned (.bool (nodeB leaf l))∧Below w.heap.size w w':=by
 cases leaf
 ·exact check_branch a len cap l w h hlen hd
 ·exact check_leaf a len cap l w h hlen hd
theorem page_of_unp (b:List UInt8) (h:unpE b=0):b.length=128∧fits (unpK b) (unpL b)=true:=by
 have h0:=h;unfold unpE at h
 split at h
 ·simp at h
 ·rename_i h1
  split at h
  ·simp at h
  ·split at h
   ·rename_i h3
    simp only[unpB,Bool.and_eq_true,beq_iff_eq] at h3;have hk:unpK b=kindS b:=by rw[unpK,if_pos h0]
    have hl:unpL b=cutS b (min (numS b) 122):=by rw[unpL,if_pos h0]
    rw[hk,hl];exact⟨by omega,h3.2.1⟩
   ·simp at h
theorem unp_cell (b:List UInt8) (h:unpE b=0) (c:List UInt8) (hc:c∈unpL b):c.length≤128:=by
 have hl:=(page_of_unp b h).1;rw[unpL,if_pos h,cutS,List.mem_map] at hc;obtain⟨i,_,rfl⟩:=hc;rw[cellS,List.length_take,List.length_drop];omega
theorem unp_many (b:List UInt8):(unpL b).length≤122:=by
 unfold unpL;split
 ·rw[cutS_length];exact Nat.min_le_right _ _
 ·simp
theorem takeF_fst_len (s:TSt) (n:Nat):(takeF s n).1.length≤s.l.length:=by
 unfold takeF;split
 ·simp
 ·split
  ·simp
  ·simp;omega
theorem tText_fst_len (s:TSt):(tText s).1.length≤s.l.length:=by
 have h1:=takeF_fst_len (tNum s 1).2 (tNum s 1).1;have h2:=tNum_len s 1;simp only[tText];omega
theorem tText_len (s:TSt):(tText s).2.l.length≤s.l.length:=by
 have h1:=takeF_len (tNum s 1).2 (tNum s 1).1;have h2:=tNum_len s 1;simp only[tText];omega
theorem decE_small {leaf:Bool} {c:List UInt8} {e:En} (h:decE leaf c=some e):e.key.length≤c.length∧e.v.data.length≤c.length:=by
 rw[decE,Option.map_eq_some_iff] at h;obtain⟨v,hv,rfl⟩:=h;have h1:=tText_fst_len ⟨c,0⟩;have h2:=tText_len ⟨c,0⟩;refine⟨h1,?_⟩;have h3:=tNum_len (tText ⟨c,0⟩).2 1;have h4:(tRest (tNum (tText ⟨c,0⟩).2 1).2).1.length≤(tNum (tText ⟨c,0⟩).2 1).2.l.length:=takeF_fst_len _ _;unfold decV at hv
 repeat' (split at hv)
 all_goals first|(cases hv;done)|(have e:=Option.some.inj hv;subst e;simp only[List.length_nil] at *;omega)
theorem decL_small {leaf:Bool} {M:Nat}:∀{a:List (List UInt8)} {l:List En},decL leaf a=some l→(∀c∈a,c.length≤M)→∀e∈l,e.key.length≤M∧e.v.data.length≤M
 | [],l,h,_=>by cases h;intro e he;simp at he
 | c::r,l,h,hM=>by
  simp only[decL] at h;cases hc:decE leaf c with
  | none=>rw[hc] at h;cases h
  | some x=>
   cases hr:decL leaf r with
   | none=>rw[hc,hr] at h;cases h
   | some m=>
    rw[hc,hr] at h;cases h;intro e he
    rcases List.mem_cons.1 he with rfl|he
    ·have:=decE_small hc;have:=hM c (by simp);omega
    ·exact decL_small hr (fun c hc=>hM c (by simp[hc])) e he
def OwnEn (w:World) (base:Nat) (v:Value) (l:List En):Prop:=w.ownsRow base 211 5 v l.length (l.flatMap ecells)
theorem OwnEn.nil (w:World) (base:Nat):OwnEn w base (.slice none 0 0) []:=World.ownsRow_nil _ _ _ _
theorem OwnEn.below {w w':World} {base:Nat} {v:Value} {l:List En} {B:Nat} (h:OwnEn w base v l) (hB:w.heap.size≤B) (hb:Below B w w'):OwnEn w' base v l:=own_below h hB hb
theorem OwnEn.ents {w:World} {base:Nat} {v:Value} {l:List En} (h:OwnEn w base v l):∃a cap,v=.slice a l.length cap∧NEnts w a l.length cap l:=
 TabR.of_own ecells (fun _=>rfl) (fun _=>rfl) h
theorem info_entry:(Tryz.prog.info? 211).map (fun i=>(i.zero,i.size,i.bytes))=some (some (.agg #[.string ⟨#[]⟩,.string ⟨#[]⟩,.bool false,.int .i64 0,.int .i64 0]),5,56):=by kernel_rfl
theorem append_en {w:World} {base:Nat} {v:Value} {l:List En} (h:OwnEn w base v l) (e:En) (hl:l.length≤65536) (hbase:base≤w.heap.size) :
 ∃v' w',(Builtin.append_ #[203,203] 203 #[v,.slice (some ⟨w.heap.size,0,none⟩) 1 1]).run Tryz.prog (w.alloc (.cells #[.string (strOf e.key),.string (strOf e.v.data),.bool e.v.far,.int .i64 e.v.size,.int .i64 e.v.page] 211))=.ok v' w'∧OwnEn w' base v' (l++[e])∧w.grownBy w' v.ownBlock:=by
 obtain⟨i0,hi,hz0,hz1,hz2⟩:=info_parts info_entry;obtain⟨v',w',hr,ho,hg,_⟩:=run_append_new (P:=Tryz.prog) base 203 211 i0 _ 5 56 Tryz.underlying203 hi hz0 hz1 hz2 rfl (by decide) h #[.string (strOf e.key),.string (strOf e.v.data),.bool e.v.far,.int .i64 e.v.size,.int .i64 e.v.page] rfl (fun u hu=>by simp at hu;rcases hu with rfl|rfl|rfl|rfl|rfl<;>rfl) (by unfold maxLen;omega) (by omega) hbase;refine⟨v',w',hr,?_,hg⟩;unfold OwnEn;rw[List.flatMap_append,List.length_append];simpa[ecells,vcells] using ho
def DecTo (leaf:Bool) (cl:List (List UInt8)) (k:Nat) (es:List En):Prop:=decL leaf (cl.take k)=some es
theorem DecTo.step {leaf:Bool} {cl:List (List UInt8)} {k:Nat} {es:List En} {c:List UInt8} {e:En} (h:DecTo leaf cl k es) (hc:cl[k]? = some c) (he:decE leaf c=some e):DecTo leaf cl (k+1) (es++[e]):=by
 unfold DecTo at h ⊢;rw[List.take_add_one,hc];show decL leaf (cl.take k++[c])=_;rw[decL_snoc,h,he]
theorem DecTo.len {leaf:Bool} {cl:List (List UInt8)} {k:Nat} {es:List En} (h:DecTo leaf cl k es):es.length≤k:=by
 have:=decL_length h;rw[this];simp;omega
def GetNPost (w:World) (leaf:Bool) (l:List En) (er:Int) (e:Ending) (w':World):Prop:=
 ∃v,e=.returned (.tuple #[.agg #[.bool leaf,v],.int .i64 er])∧OwnEn w' w.heap.size v l∧Below w.heap.size w w'
theorem getpost_none {w w':World} {e:Ending} {er:Int} (he:e=.returned (.tuple #[.agg #[.bool false,.slice none 0 0],.int .i64 er])) (hb:Below w.heap.size w w'):GetNPost w false [] er e w':=⟨_,he,OwnEn.nil _ _,hb⟩
theorem ta_val (v:Vv) (W:World):(Instr.typeAssert (.iface 209 (vv v)) 20 209 true).run Tryz.prog W=.ok (.tuple #[vv v,.bool true]) W:=by kernel_rfl
theorem ta_none (x:Int) (W:World):(Instr.typeAssert (.iface 32 (.int .i64 x)) 20 209 true).run Tryz.prog W=.ok (.tuple #[.agg #[.string ⟨#[]⟩,.bool false,.int .i64 0,.int .i64 0],.bool false]) W:=by kernel_rfl
theorem nget_err (a:Option Addr) (n cap:Nat) (b:List UInt8) (w:World) (h:Bs w a n cap b) (hh:Half w) (hE:unpE b≠0) :
 Calls Tryz.prog 96 #[.slice a n cap] w (GetNPost w false [] (unpE b)):=by
 have hB:=below_one w (.cells #[.bool false,.slice none 0 0] 205);have BX:=(Boxes.nil w).alloc #[.bool false,.slice none 0 0] 205 rfl;have hun:=unpack_any a n cap b _ (h.below (Nat.le_refl _) hB) (hh.below (Nat.le_refl _) hB);have hne:((unpE b:Int) != 0)=true:=by simpa using hE
 have hne2:((unpE b:Int) == 0)=false:=by simpa using hE
 generalize unpE b=er at *;generalize unpK b=k at *;generalize unpL b=l at *;clear hE;go_enter Tryz.func96,Tryz.ntmps96;go_wp2_with fail;refine hun.mono ?_;rintro e w1 ⟨v1,rfl,_,hb1⟩;have BX:=BX.step hb1;have g0:=BX.cell 0 0 rfl rfl;have g1:=BX.cell 0 1 rfl rfl;have f0:=BX.frozen 0 0 rfl;have f1:=BX.frozen 0 1 rfl;go_wp2_with fail;refine bodyPost_ret (v:=.tuple #[.agg #[.bool false,.slice none 0 0],.int .i64 er]) (by simp[results,Tryz.results96,go_sem,g0,g1]) rfl (getpost_none rfl ?_);exact(((below_then hB hb1).setCell (Nat.le_refl _) _).setCell (Nat.le_refl _) _)
theorem nget_kind (a:Option Addr) (n cap:Nat) (b:List UInt8) (w:World) (h:Bs w a n cap b) (hh:Half w) (hE:unpE b=0) (hk:2<(unpK b).toNat) :
 Calls Tryz.prog 96 #[.slice a n cap] w (GetNPost w false [] 11):=by
 have hB:=below_one w (.cells #[.bool false,.slice none 0 0] 205);have BX:=(Boxes.nil w).alloc #[.bool false,.slice none 0 0] 205 rfl;have hun:=unpack_any a n cap b _ (h.below (Nat.le_refl _) hB) (hh.below (Nat.le_refl _) hB);rw[hE] at hun;have SH:=fun W=>shapes_any W
 have hkl:=(unpK b).toNat_lt;generalize (unpL b)=l at *;generalize hkd:(unpK b).toNat=kd at *;have hge:(decide ((kd:Int)≥3))=true:=by simp;omega
 have hge2:(decide ((3:Int)≤(kd:Int)))=true:=by simp;omega
 have hge3:(decide (3≤kd))=true:=by simp;omega
 unfold UnpPost at hun;rw[hkd] at hun;clear hE hkd hk;go_enter Tryz.func96,Tryz.ntmps96;go_wp2_with fail;refine hun.mono ?_;rintro e w1 ⟨v1,rfl,_,hb1⟩;have BX:=BX.step hb1;have hb:=below_then hB hb1;go_wp2_with fail;refine(SH _).mono ?_;rintro e w2 ⟨bs,rfl,hs2,hb2⟩;have BX:=BX.step hb2;have hb:=below_then hb hb2;have g0:=BX.cell 0 0 rfl rfl;have g1:=BX.cell 0 1 rfl rfl;have f0:=BX.frozen 0 0 rfl;have f1:=BX.frozen 0 1 rfl;go_wp2_with fail;refine bodyPost_ret (v:=.tuple #[.agg #[.bool false,.slice none 0 0],.int .i64 11]) (by simp[results,Tryz.results96,go_sem,g0,g1]) rfl (getpost_none rfl ?_);exact((hb.setCell (Nat.le_refl _) _).setCell (Nat.le_refl _) _)
theorem nget_leaf (a:Option Addr) (n cap:Nat) (b:List UInt8) (w:World) (h:Bs w a n cap b) (hh:Half w) (hE:unpE b=0) (hk:unpK b=kindN true) :
 Calls Tryz.prog 96 #[.slice a n cap] w (GetNPost w (getNF b) (getNL b) (getNE b)):=by
 have hB:=below_one w (.cells #[.bool false,.slice none 0 0] 205);have BX:=(Boxes.nil w).alloc #[.bool false,.slice none 0 0] 205 rfl;have hun:=unpack_any a n cap b _ (h.below (Nat.le_refl _) hB) (hh.below (Nat.le_refl _) hB);have hmany:=unp_many b;have hcl:=unp_cell b hE;have hlk:leafK b=true:=by rw[leafK,hk];rfl
 have hdec:(decide ((unpK b).toNat≤2))=true:=by rw[hk];rfl
 have hgE:getNE b=if (match decL true (unpL b) with|some l=>nodeB true l|none=>false) then 0 else 11:=by
  rw[getNE,if_neg (by rw[hE];simp),getNB,hdec,entN,hlk];rfl
 have hgL:getNL b=if getNE b=0 then (decL true (unpL b)).getD [] else []:=by rw[getNL,entN,hlk]
 have hgF:getNF b=if getNE b=0 then true else false:=by rw[getNF,hlk]
 rw[hE,hk] at hun;have SH:=fun W=>shapes_any W
 generalize unpL b=cl at *;generalize getNE b=gE at *;generalize getNL b=gL at *;generalize getNF b=gF at *;have HE:=Hd hgE;have HL:=Hd hgL;have HF:=Hd hgF;have HC:=Hd hcl;have hun:Calls Tryz.prog 138 #[.slice a n cap] (w.alloc (.cells #[.bool false,.slice none 0 0] 205)) fun e w'=>∃v,e=.returned (.tuple #[.int .u8 1,v,.int .i64 0])∧OwnBss w' (w.alloc (.cells #[.bool false,.slice none 0 0] 205)).heap.size v cl∧Below (w.alloc (.cells #[.bool false,.slice none 0 0] 205)).heap.size (w.alloc (.cells #[.bool false,.slice none 0 0] 205)) w':=hun
 clear hE hk hlk hdec hgE hgL hgF hcl;go_enter Tryz.func96,Tryz.ntmps96;go_wp2_with fail;refine hun.mono ?_;rintro e w1 ⟨v1,rfl,hob,hb1⟩;obtain⟨ac,cc,rfl,hbs⟩:=hob.bss;have BX:=BX.step hb1;have hb:=below_then hB hb1;clear hob hun hb1;go_wp2_with fail;refine(SH _).mono ?_;rintro e w2 ⟨bs,rfl,hs2,hb2⟩;have BX:=BX.step hb2;have hb:=below_then hb hb2;have hbs:=hbs.below (Nat.le_refl _) hb2;clear hb2 hs2;go_wp2_with fail;refine(SH _).mono ?_;rintro e w3 ⟨bs3,rfl,hs3,hb3⟩;have BX:=BX.step hb3;have hb:=below_then hb hb3;have hbs:=hbs.below (Nat.le_refl _) hb3;have g3:=hs3.cell 0 1 rfl rfl;have hq:(binOp .eql 271 (.iface 273 (.agg #[])) (.iface 273 (.agg #[]))).run Tryz.prog w3=.ok (.bool true) w3:=by kernel_rfl
 have BY:=BX.alloc #[.bool true,.slice none 0 0] 205 rfl;have hb4:=below_one w3 (.cells #[.bool true,.slice none 0 0] 205);have HBS:=Hd hbs;have HB:=Hd hb;have hlt3:=BX.lt 0 rfl;clear hb3 hs3 BX hbs hb;go_wp2_with fail
 go_loopw [42] (fun i wr=>∃(k:Nat) (v:Value) (es:List En),k≤cl.length∧i=.int .i64 k∧DecTo true cl k es∧Boxes wr [(w3.heap.size,[.bool true,v]),(w.heap.size,[.bool false,.slice none 0 0])]∧OwnEn wr (w3.heap.size+1) v es∧Below w3.heap.size w3 wr) (fun i _=>cl.length-(intOf i).toNat)
 case atStart=>exact⟨0,_,[],Nat.zero_le _,rfl,rfl,BY,OwnEn.nil _ _,hb4⟩
 case round=>
  obtain⟨k,v,es,hk,rfl,hdt,BY,hown,hbw⟩:=hrel;have hsz:=hbw.size;have HDT:=Hd hdt;have hes:=hdt.len;clear hdt
  by_cases hlt:k<cl.length
  ·obtain⟨b5,off5,a5,n5,c5,rfl,hbb5,hcell5,hbs5⟩:=(HBS.out.below (Nat.le_refl _) hbw).at hlt
   obtain⟨c,hc⟩:∃c,cl[k]? = some c:=⟨_,List.getElem?_eq_getElem hlt⟩
   rw[hc,Option.getD_some] at hbs5;have h5:c.length≤128:=HC.out c (List.mem_of_getElem? hc);have h5':n5≤128:=by have:=hbs5.len;omega
   have HCK:=Hd hc;have hT:=take_any a5 n5 c5 c wr hbs5 (by omega);have hde:decE true c=(decV true (tText ⟨c,0⟩).2).map fun v=>⟨(tText ⟨c,0⟩).1,v⟩:=rfl
   have hl6:=tText_len ⟨c,0⟩;have hl6:(tText ⟨c,0⟩).2.l.length≤128:=Nat.le_trans hl6 h5;have TT:=fun t W (h:Tk W t ⟨c,0⟩)=>tText_any t ⟨c,0⟩ W h (Nat.le_trans h5 (by decide))
   generalize (tText ⟨c,0⟩).1=key at *;generalize (tText ⟨c,0⟩).2=s6 at *;have HDE:=Hd hde;have TK:=fun t W (h:Tk W t s6)=>takeL_any t s6 W h (Nat.le_trans hl6 (by decide))
   generalize decV true s6=o at *;have hmp:=m_takeL;clear hc hbs5 hde;go_wp2_with fail;refine hT.mono ?_;rintro e w5 ⟨rfl,htk5,htl,hb5⟩;generalize w5.heap.size-1=t at *;have BY0:=Hd BY;have HO0:=Hd hown;clear hT BY hown;go_wp2_with fail;refine(TT _ _ htk5).mono ?_;rintro e w6 ⟨_,rfl,rfl,hg6,htk6⟩;have hb6:=below_take hb5 htl hg6;go_wp2_with fail;refine(TK _ _ htk6).mono ?_;rintro e w7 ⟨u,s7,rfl,hu,hg7,htk7⟩;have hb7:=below_take hb6 htl hg7;have BY7:=BY0.out.step hb7;have hown7:=HO0.out.below (Nat.le_refl _) hb7;have hbw7:=below_then hbw hb7;have hb8:=below_one w7;cases o with
   | none=>
    obtain⟨x,rfl⟩:=hu;have hN:decL true cl=none:=decL_none HCK.out HDE.out;exact qe37dd5
   | some x=>
    subst hu;have hD:decE true c=some ⟨key,x⟩:=HDE.out;have HDT2:=Hd (HDT.out.step HCK.out hD);have hta:=ta_val x w7;unfold vv at hta ⊢;have hsz7:=hbw7.size;have hb8:=below_one w7 (.cells #[.string (strOf x.data),.bool x.far,.int .i64 x.size,.int .i64 x.page] 209);have BV:=BY7.alloc #[.string (strOf x.data),.bool x.far,.int .i64 x.size,.int .i64 x.page] 209 rfl;obtain⟨v9,w9,hr9,ho9,hg9⟩:=append_en (hown7.below (Nat.le_refl _) hb8) ⟨key,x⟩ (by omega) (by simp;omega);obtain⟨a9,k9,rfl,hk91,hk92,hk93⟩:=own_slice ho9;rw[show(es++[⟨key,x⟩]:List En).length=es.length+1 from by simp] at ho9 hr9;have e1:=BV.cell 1 1 rfl rfl;have hne1:v.ownBlock≠some w3.heap.size:=fun e=>by have:=own_ge hown7 _ e;omega
    have BW:=(BV.sub (m:=[(w3.heap.size,[.bool true,v]),(w.heap.size,[.bool false,.slice none 0 0])]) (fun p hp=>List.mem_cons_of_mem _ hp)).grown hg9 (fun p hp=>by
     simp at hp
     rcases hp with rfl|rfl
     ·exact hne1
     ·intro e;have:=own_ge hown7 _ e;have:=HB.out.size;omega)
    exact qeefabc
  ·obtain rfl:k=cl.length:=by omega
   have hdl:decL true cl=some es:=by have:=HDT.out;unfold DecTo at this;rwa [List.take_length] at this
   have hes16:SmE es:=fun e he=>by have:=decL_small hdl HC.out e he;omega
   obtain⟨av,kv,rfl,hen⟩:=hown.ents;have CK:=check_any true av es.length kv es wr hen (by omega) hes16;have hE:gE=if nodeB true es then 0 else 11:=by rw[HE.out,hdl]
   have e0:=BY.cell 0 0 rfl rfl;have e1:=BY.cell 0 1 rfl rfl;have HO:=Hd hown;clear hown hen;have hbb:=below_then HB.out hbw;cases hn:nodeB true es with
   | true=>
    rw[hn] at CK hE;have hE0:gE=0:=hE;have hL:gL=es:=by rw[HL.out,if_pos hE0,hdl];rfl
    have hF:gF=true:=by rw[HF.out,if_pos hE0]
    clear hn hE hdl HE HL HF;subst hE0 hL hF;go_wp2_with fail;refine CK.mono ?_;rintro e w5 ⟨rfl,hb5⟩;have BY5:=BY.step hb5;have HO5:=HO.out.below (Nat.le_refl _) hb5;have hbb5:=below_then hbb hb5;have hbw5:=below_then hbw hb5;have g0:=BY5.cell 0 0 rfl rfl;have g1:=BY5.cell 0 1 rfl rfl;have g2:=BY5.cell 1 0 rfl rfl;have g3:=BY5.cell 1 1 rfl rfl;have f2:=BY5.frozen 1 0 rfl;have f3:=BY5.frozen 1 1 rfl;go_wp2_with fail;refine bodyPost_ret (v:=.tuple #[.agg #[.bool true,.slice av gL.length kv],.int .i64 0]) (by simp[results,Tryz.results96,go_sem,g2,g3]) rfl ⟨_,rfl,?_,?_⟩
    ·have hrb:∀i u W,OwnEn W (w3.heap.size+1) (.slice av gL.length kv) gL→OwnEn (W.setCell ⟨w.heap.size,i,none⟩ u) (w3.heap.size+1) (.slice av gL.length kv) gL:=fun i u W hW=>own_set hW _ _ (fun e=>by have h2:=own_ge hW _ e;have h3:w3.heap.size+1≤w.heap.size:=h2;omega)
     exact own_baseC (hrb _ _ _ (hrb _ _ _ HO5)) (by omega)
    ·exact((hbb5.setCell (Nat.le_refl _) _).setCell (Nat.le_refl _) _)
   | false=>
    exact q06aa71
theorem nget_branch (a:Option Addr) (n cap:Nat) (b:List UInt8) (w:World) (h:Bs w a n cap b) (hh:Half w) (hE:unpE b=0) (hk:unpK b=kindN false) :
 Calls Tryz.prog 96 #[.slice a n cap] w (GetNPost w (getNF b) (getNL b) (getNE b)):=by
 have hB:=below_one w (.cells #[.bool false,.slice none 0 0] 205);have BX:=(Boxes.nil w).alloc #[.bool false,.slice none 0 0] 205 rfl;have hun:=unpack_any a n cap b _ (h.below (Nat.le_refl _) hB) (hh.below (Nat.le_refl _) hB);have hmany:=unp_many b;have hcl:=unp_cell b hE;have hlk:leafK b=false:=by rw[leafK,hk];rfl
 have hdec:(decide ((unpK b).toNat≤2))=true:=by rw[hk];rfl
 have hgE:getNE b=if (match decL false (unpL b) with|some l=>nodeB false l|none=>false) then 0 else 11:=by
  rw[getNE,if_neg (by rw[hE];simp),getNB,hdec,entN,hlk];rfl
 have hgL:getNL b=if getNE b=0 then (decL false (unpL b)).getD [] else []:=by rw[getNL,entN,hlk]
 have hgF:getNF b=if getNE b=0 then false else false:=by rw[getNF,hlk]
 rw[hE,hk] at hun;have SH:=fun W=>shapes_any W
 generalize unpL b=cl at *;generalize getNE b=gE at *;generalize getNL b=gL at *;generalize getNF b=gF at *;have HE:=Hd hgE;have HL:=Hd hgL;have HF:=Hd hgF;have HC:=Hd hcl;have hun:Calls Tryz.prog 138 #[.slice a n cap] (w.alloc (.cells #[.bool false,.slice none 0 0] 205)) fun e w'=>∃v,e=.returned (.tuple #[.int .u8 2,v,.int .i64 0])∧OwnBss w' (w.alloc (.cells #[.bool false,.slice none 0 0] 205)).heap.size v cl∧Below (w.alloc (.cells #[.bool false,.slice none 0 0] 205)).heap.size (w.alloc (.cells #[.bool false,.slice none 0 0] 205)) w':=hun
 clear hE hk hlk hdec hgE hgL hgF hcl;go_enter Tryz.func96,Tryz.ntmps96;go_wp2_with fail;refine hun.mono ?_;rintro e w1 ⟨v1,rfl,hob,hb1⟩;obtain⟨ac,cc,rfl,hbs⟩:=hob.bss;have BX:=BX.step hb1;have hb:=below_then hB hb1;clear hob hun hb1;go_wp2_with fail;refine(SH _).mono ?_;rintro e w2 ⟨bs,rfl,hs2,hb2⟩;have BX:=BX.step hb2;have hb:=below_then hb hb2;have hbs:=hbs.below (Nat.le_refl _) hb2;clear hb2 hs2;go_wp2_with fail;refine(SH _).mono ?_;rintro e w3 ⟨bs3,rfl,hs3,hb3⟩;have BX:=BX.step hb3;have hb:=below_then hb hb3;have hbs:=hbs.below (Nat.le_refl _) hb3;have g3:=hs3.cell 0 2 rfl rfl;have hq:(binOp .eql 271 (.iface 315 (.agg #[])) (.iface 273 (.agg #[]))).run Tryz.prog w3=.ok (.bool false) w3:=by kernel_rfl
 have BY:=BX.alloc #[.bool false,.slice none 0 0] 205 rfl;have hb4:=below_one w3 (.cells #[.bool false,.slice none 0 0] 205);have HBS:=Hd hbs;have HB:=Hd hb;have hlt3:=BX.lt 0 rfl;clear hb3 hs3 BX hbs hb;go_wp2_with fail
 go_loopw [42] (fun i wr=>∃(k:Nat) (v:Value) (es:List En),k≤cl.length∧i=.int .i64 k∧DecTo false cl k es∧Boxes wr [(w3.heap.size,[.bool false,v]),(w.heap.size,[.bool false,.slice none 0 0])]∧OwnEn wr (w3.heap.size+1) v es∧Below w3.heap.size w3 wr) (fun i _=>cl.length-(intOf i).toNat)
 case atStart=>exact⟨0,_,[],Nat.zero_le _,rfl,rfl,BY,OwnEn.nil _ _,hb4⟩
 case round=>
  obtain⟨k,v,es,hk,rfl,hdt,BY,hown,hbw⟩:=hrel;have hsz:=hbw.size;have HDT:=Hd hdt;have hes:=hdt.len;clear hdt
  by_cases hlt:k<cl.length
  ·obtain⟨b5,off5,a5,n5,c5,rfl,hbb5,hcell5,hbs5⟩:=(HBS.out.below (Nat.le_refl _) hbw).at hlt
   obtain⟨c,hc⟩:∃c,cl[k]? = some c:=⟨_,List.getElem?_eq_getElem hlt⟩
   rw[hc,Option.getD_some] at hbs5;have h5:c.length≤128:=HC.out c (List.mem_of_getElem? hc);have h5':n5≤128:=by have:=hbs5.len;omega
   have HCK:=Hd hc;have hT:=take_any a5 n5 c5 c wr hbs5 (by omega);have hde:decE false c=(decV false (tText ⟨c,0⟩).2).map fun v=>⟨(tText ⟨c,0⟩).1,v⟩:=rfl
   have hl6:=tText_len ⟨c,0⟩;have hl6:(tText ⟨c,0⟩).2.l.length≤128:=Nat.le_trans hl6 h5;have TT:=fun t W (h:Tk W t ⟨c,0⟩)=>tText_any t ⟨c,0⟩ W h (Nat.le_trans h5 (by decide))
   generalize (tText ⟨c,0⟩).1=key at *;generalize (tText ⟨c,0⟩).2=s6 at *;have HDE:=Hd hde;have TK:=fun t W (h:Tk W t s6)=>takeB_any t s6 W h (Nat.le_trans hl6 (by decide))
   generalize decV false s6=o at *;have hmp:=m_takeB;clear hc hbs5 hde;go_wp2_with fail;refine hT.mono ?_;rintro e w5 ⟨rfl,htk5,htl,hb5⟩;generalize w5.heap.size-1=t at *;have BY0:=Hd BY;have HO0:=Hd hown;clear hT BY hown;go_wp2_with fail;refine(TT _ _ htk5).mono ?_;rintro e w6 ⟨_,rfl,rfl,hg6,htk6⟩;have hb6:=below_take hb5 htl hg6;go_wp2_with fail;refine(TK _ _ htk6).mono ?_;rintro e w7 ⟨u,s7,rfl,hu,hg7,htk7⟩;have hb7:=below_take hb6 htl hg7;have BY7:=BY0.out.step hb7;have hown7:=HO0.out.below (Nat.le_refl _) hb7;have hbw7:=below_then hbw hb7;have hb8:=below_one w7;cases o with
   | none=>
    obtain⟨x,rfl⟩:=hu;have hN:decL false cl=none:=decL_none HCK.out HDE.out;exact qe37dd5
   | some x=>
    subst hu;have hD:decE false c=some ⟨key,x⟩:=HDE.out;have HDT2:=Hd (HDT.out.step HCK.out hD);have hta:=ta_val x w7;unfold vv at hta ⊢;have hsz7:=hbw7.size;have hb8:=below_one w7 (.cells #[.string (strOf x.data),.bool x.far,.int .i64 x.size,.int .i64 x.page] 209);have BV:=BY7.alloc #[.string (strOf x.data),.bool x.far,.int .i64 x.size,.int .i64 x.page] 209 rfl;obtain⟨v9,w9,hr9,ho9,hg9⟩:=append_en (hown7.below (Nat.le_refl _) hb8) ⟨key,x⟩ (by omega) (by simp;omega);obtain⟨a9,k9,rfl,hk91,hk92,hk93⟩:=own_slice ho9;rw[show(es++[⟨key,x⟩]:List En).length=es.length+1 from by simp] at ho9 hr9;have e1:=BV.cell 1 1 rfl rfl;have hne1:v.ownBlock≠some w3.heap.size:=fun e=>by have:=own_ge hown7 _ e;omega
    have BW:=(BV.sub (m:=[(w3.heap.size,[.bool false,v]),(w.heap.size,[.bool false,.slice none 0 0])]) (fun p hp=>List.mem_cons_of_mem _ hp)).grown hg9 (fun p hp=>by
     simp at hp
     rcases hp with rfl|rfl
     ·exact hne1
     ·intro e;have:=own_ge hown7 _ e;have:=HB.out.size;omega)
    exact qeefabc
  ·obtain rfl:k=cl.length:=by omega
   have hdl:decL false cl=some es:=by have:=HDT.out;unfold DecTo at this;rwa [List.take_length] at this
   have hes16:SmE es:=fun e he=>by have:=decL_small hdl HC.out e he;omega
   obtain⟨av,kv,rfl,hen⟩:=hown.ents;have CK:=check_any false av es.length kv es wr hen (by omega) hes16;have hE:gE=if nodeB false es then 0 else 11:=by rw[HE.out,hdl]
   have e0:=BY.cell 0 0 rfl rfl;have e1:=BY.cell 0 1 rfl rfl;have HO:=Hd hown;clear hown hen;have hbb:=below_then HB.out hbw;cases hn:nodeB false es with
   | true=>
    rw[hn] at CK hE;have hE0:gE=0:=hE;have hL:gL=es:=by rw[HL.out,if_pos hE0,hdl];rfl
    have hF:gF=false:=by rw[HF.out,if_pos hE0]
    clear hn hE hdl HE HL HF;subst hE0 hL hF;go_wp2_with fail;refine CK.mono ?_;rintro e w5 ⟨rfl,hb5⟩;have BY5:=BY.step hb5;have HO5:=HO.out.below (Nat.le_refl _) hb5;have hbb5:=below_then hbb hb5;have hbw5:=below_then hbw hb5;have g0:=BY5.cell 0 0 rfl rfl;have g1:=BY5.cell 0 1 rfl rfl;have g2:=BY5.cell 1 0 rfl rfl;have g3:=BY5.cell 1 1 rfl rfl;have f2:=BY5.frozen 1 0 rfl;have f3:=BY5.frozen 1 1 rfl;go_wp2_with fail;refine bodyPost_ret (v:=.tuple #[.agg #[.bool false,.slice av gL.length kv],.int .i64 0]) (by simp[results,Tryz.results96,go_sem,g2,g3]) rfl ⟨_,rfl,?_,?_⟩
    ·have hrb:∀i u W,OwnEn W (w3.heap.size+1) (.slice av gL.length kv) gL→OwnEn (W.setCell ⟨w.heap.size,i,none⟩ u) (w3.heap.size+1) (.slice av gL.length kv) gL:=fun i u W hW=>own_set hW _ _ (fun e=>by have h2:=own_ge hW _ e;have h3:w3.heap.size+1≤w.heap.size:=h2;omega)
     exact own_baseC (hrb _ _ _ (hrb _ _ _ HO5)) (by omega)
    ·exact((hbb5.setCell (Nat.le_refl _) _).setCell (Nat.le_refl _) _)
   | false=>
    exact q06aa71
theorem nget_any (a:Option Addr) (n cap:Nat) (b:List UInt8) (w:World) (h:Bs w a n cap b) (hh:Half w) :
 Calls Tryz.prog 96 #[.slice a n cap] w (GetNPost w (getNF b) (getNL b) (getNE b)):=by
 by_cases hE:unpE b=0
 ·by_cases hk:(unpK b).toNat≤2
  ·have hf:=(page_of_unp b hE).2
   have h0:unpK b≠0:=fun e=>by rw[fits,e] at hf;simp at hf
   have h0':(unpK b).toNat≠0:=fun e=>h0 (UInt8.toNat_inj.1 e)
   by_cases h1:(unpK b).toNat=1
   ·exact nget_leaf a n cap b w h hh hE (UInt8.toNat_inj.1 h1)
   ·exact nget_branch a n cap b w h hh hE (UInt8.toNat_inj.1 (show(unpK b).toNat=2 by omega))
  ·have hB:getNB b=false:=by rw[getNB,decide_eq_false hk];rfl
   have hE2:getNE b=11:=by rw[getNE,if_neg (by rw[hE];simp),hB];rfl
   have hL2:getNL b=[]:=by rw[getNL,if_neg (by rw[hE2];decide)]
   have hF2:getNF b=false:=by rw[getNF,if_neg (by rw[hE2];decide)]
   rw[hE2,hL2,hF2];exact nget_kind a n cap b w h hh hE (by omega)
 ·have hE2:getNE b=unpE b:=by rw[getNE,if_pos hE]
  have hL2:getNL b=[]:=by rw[getNL,hE2,if_neg hE]
  have hF2:getNF b=false:=by rw[getNF,hE2,if_neg hE]
  rw[hE2,hL2,hF2];exact nget_err a n cap b w h hh hE
end Go.Proofs.YtpghlmcoajaiiaaGreatDoor
