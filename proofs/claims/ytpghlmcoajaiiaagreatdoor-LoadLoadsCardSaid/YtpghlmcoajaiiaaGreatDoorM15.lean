/- Texts that other texts of this claim lean on, one behind the other. -/
import Derived.Test.YtpghlmcoajaiiaaGreatDoorM1
import Derived.Test.YtpghlmcoajaiiaaGreatDoorM9
import Derived.Test.YtpghlmcoajaiiaaGreatDoorM8
import Derived.Deep.RegionHeld3
import Derived.Deep.DeepCutAuto
import Derived.Deep.CutBlock
import Derived.Deep.QuietTactic
import Derived.BigQuiet
import Derived.Test.YtpghlmcoajaiiaaGreatDoorM5
import Derived.Test.YtpghlmcoajaiiaaGreatDoorM14
import Derived.Test.YtpghlmcoajaiiaaGreatDoorM13d
import Derived.Test.YtpghlmcoajaiiaaGreatDoorM2
import Derived.Test.YtpghlmcoajaiiaaGreatDoorM3
import Derived.Test.YtpghlmcoajaiiaaGreatDoorM4
import Derived.ChangeArms
import Derived.OpenShut
set_option maxHeartbeats 20000000
set_option maxRecDepth 100000
namespace Go.Proofs.YtpghlmcoajaiiaaGreatDoor
open Go.RowKit
def SameTo (w:World) (e:Ending) (w':World):Prop:=e=.returned (.bool true)∧Below w.heap.size w w'
theorem Row.cellS {w:World} {a:Option Addr} {len cap:Nat} {l:List Int} (h:Row .i64 w a len cap l) {k:Nat} (hk:k<len) :
 ∃b off,a=some ⟨b,off,none⟩∧b<w.heap.size∧w.cell? ⟨b,off+k,none⟩=some (.int .i64 (l[k]?.getD 0)):=by
 rcases h.2.2.2.2 with h0|⟨b,off,h1,h2,h3⟩
 ·omega
 ·exact⟨b,off,h1,h2,h3 k hk⟩
theorem Row.lensS {k:IntKind} {w:World} {a:Option Addr} {len cap:Nat} {l:List Int} (h:Row k w a len cap l):l.length=len∧len≤cap∧cap≤9223372036854775807:=⟨h.1,h.2.1,by have:=h.2.2.1;unfold maxLen at this;omega⟩
theorem same_step {n:Nat} (IH:∀{F G:Nat→Prop} {w:World} {cs ds:List Value} {t:Tr},RNodeOn F n w cs t→RNodeOn G n w ds t→Calls Tryz.prog 17 #[.agg cs.toArray,.agg ds.toArray] w (SameTo w))
 {F G:Nat→Prop} {w:World} {cs ds:List Value} {t:Tr} (hf:RNodeOn F (n+1) w cs t) (hg:RNodeOn G (n+1) w ds t) :
 Calls Tryz.prog 17 #[.agg cs.toArray,.agg ds.toArray] w (SameTo w):=by
 obtain⟨a,c,rfl,h1,_⟩:=hf.at;obtain⟨d,g,rfl,g1,_⟩:=hg.at;obtain⟨e1,e2,e3⟩:=h1.lens;obtain⟨e4,e5,e6⟩:=g1.lens;generalize cntT t=m at *;generalize cellsR t=L at *;generalize t.page=p at *;generalize t.isLeaf=lf at *;have H1:=Hd h1;have G1:=Hd g1;have hB0:Below w.heap.size w ((w.alloc (.cells #[.int .i64 p,.bool lf,.slice a m c] 27)).alloc (.cells #[.int .i64 p,.bool lf,.slice d m g] 27)):=Below.al (Below.al (Below.refl _ _));have HX0:=Hd (((Boxes.nil w).alloc #[.int .i64 p,.bool lf,.slice a m c] 27 (b:=w.heap.size) rfl).alloc #[.int .i64 p,.bool lf,.slice d m g] 27 (b:=w.heap.size+1) (by simp));have HB0:=Hd hB0;have hpp:(p != p)=false:=by simp
 have hll:(lf != lf)=false:=by simp
 have hmm:((m:Int) != (m:Int))=false:=by simp
 clear h1 g1 hB0 hf hg e1 e4;go_enter Tryz.func17,Tryz.ntmps17;go_wp2_with fail
 go_loopw [5] (fun s5 wr=>∃(i:Nat),i≤m∧s5=.int .i64 i∧Boxes wr [(w.heap.size+1,[.int .i64 p,.bool lf,.slice d m g]),(w.heap.size,[.int .i64 p,.bool lf,.slice a m c])]∧Below w.heap.size w wr) (fun s _=>m-(intOf s).toNat)
 case atStart=>exact⟨0,Nat.zero_le _,rfl,HX0.out,HB0.out⟩
 case round=>
  obtain⟨i,hi,rfl,hx,hb⟩:=hrel;clear HX0 HB0 hpp hll hmm;have n2:=hx.cell 1 2 rfl rfl;have o2:=hx.cell 0 2 rfl rfl
  by_cases hlt:i<m
  rotate_left
  ·obtain rfl:i=m:=by omega
   have HE:=Hd hb;clear hx hb;go_wp2_with fail;go_ret;exact⟨rfl,HE.out⟩
  obtain⟨b,off,y,pa,pn,pc,ka,kn,kc,rfl,hbb,hy,_,hrow,_,hkid,_,c0,c1,c2,c3⟩:=RNodeOn.cell H1.out hlt;obtain⟨b',off',y',qa,qn,qc,la,ln,lc,rfl,hbb',hy',_,hrow',_,hkid',_,c0',c1',c2',c3'⟩:=RNodeOn.cell G1.out hlt;rw[hy] at hy';cases hy';obtain⟨r1,r2,r3⟩:=hrow.lensS;obtain⟨r4,r5,r6⟩:=hrow'.lensS;obtain⟨s1,s2,s3⟩:=hkid.lens;obtain⟨s4,s5,s6⟩:=hkid'.lens;obtain rfl:pn=qn:=by omega
  obtain rfl:kn=ln:=by omega
  obtain⟨yk,yv,yo⟩:=y;obtain⟨yd,yp⟩:=yv;dsimp only at *;have v0:=(hb.cell (p:=⟨b,off+i*4,none⟩) hbb).trans c0;have v1:=(hb.cell (p:=⟨b,off+i*4+1,none⟩) hbb).trans c1;have v2:=(hb.cell (p:=⟨b,off+i*4+2,none⟩) hbb).trans c2;have v3:=(hb.cell (p:=⟨b,off+i*4+3,none⟩) hbb).trans c3;have hba:Below wr.heap.size wr (wr.alloc (.cells #[.string (strOf yk),.string (strOf yd),.slice pa pn pc,.slice ka kn kc] 145)):=Below.al (Below.refl _ _);have hba2:Below wr.heap.size wr ((wr.alloc (.cells #[.string (strOf yk),.string (strOf yd),.slice pa pn pc,.slice ka kn kc] 145)).alloc (.cells #[.string (strOf yk),.string (strOf yd),.slice qa pn qc,.slice la kn lc] 145)):=Below.al hba;have x2:=(hx.step hba).cell 0 2 rfl rfl;have w0:=((below_via hb hba).cell (p:=⟨b',off'+i*4,none⟩) hbb').trans c0';have w1:=((below_via hb hba).cell (p:=⟨b',off'+i*4+1,none⟩) hbb').trans c1';have w2:=((below_via hb hba).cell (p:=⟨b',off'+i*4+2,none⟩) hbb').trans c2';have w3:=((below_via hb hba).cell (p:=⟨b',off'+i*4+3,none⟩) hbb').trans c3';have hz:Boxes ((wr.alloc (.cells #[.string (strOf yk),.string (strOf yd),.slice pa pn pc,.slice ka kn kc] 145)).alloc (.cells #[.string (strOf yk),.string (strOf yd),.slice qa pn qc,.slice la kn lc] 145)) [(wr.heap.size+1,[.string (strOf yk),.string (strOf yd),.slice qa pn qc,.slice la kn lc]),(wr.heap.size,[.string (strOf yk),.string (strOf yd),.slice pa pn pc,.slice ka kn kc])]:=((Boxes.nil wr).alloc #[.string (strOf yk),.string (strOf yd),.slice pa pn pc,.slice ka kn kc] 145 (b:=wr.heap.size) rfl).alloc #[.string (strOf yk),.string (strOf yd),.slice qa pn qc,.slice la kn lc] 145 (b:=wr.heap.size+1) (by simp);have q1:((strOf yk).toList == (strOf yk).toList)=true:=by simp
  have q2:((strOf yd).toList == (strOf yd).toList)=true:=by simp
  have q3:((pn:Int) != (pn:Int))=false:=by simp
  have q4:((kn:Int) != (kn:Int))=false:=by simp
  have t0:=hz.cell 0 0 rfl rfl;have t1:=hz.cell 0 1 rfl rfl;have t2:=hz.cell 0 2 rfl rfl;have t3:=hz.cell 0 3 rfl rfl;have u0:=hz.cell 1 0 rfl rfl;have u1:=hz.cell 1 1 rfl rfl;have u2:=hz.cell 1 2 rfl rfl;have u3:=hz.cell 1 3 rfl rfl;have HZ:=Hd hz;have HX:=Hd (hx.step hba2);have HB:=Hd (below_via hb hba2);have HR:=Hd hrow;have HR':=Hd hrow';have HK:=Hd hkid;have HK':=Hd hkid';have HS1:=Hd s1;have hsz2:wr.heap.size+2=((wr.alloc (.cells #[.string (strOf yk),.string (strOf yd),.slice pa pn pc,.slice ka kn kc] 145)).alloc (.cells #[.string (strOf yk),.string (strOf yd),.slice qa pn qc,.slice la kn lc] 145)).heap.size:=by simp
  clear hx hb c0 c1 c2 c3 c0' c1' c2' c3' hrow hrow' hkid hkid' hy r1 r4 s1 s4 hz hba hba2 hbb hbb' hsz2;go_upto_region 10 with(fail)
  clear v0 v1 v2 v3 w0 w1 w2 w3 x2;obtain⟨WA,hWA⟩:∃x,x=((wr.alloc (.cells #[.string (strOf yk),.string (strOf yd),.slice pa pn pc,.slice ka kn kc] 145)).alloc (.cells #[.string (strOf yk),.string (strOf yd),.slice qa pn qc,.slice la kn lc] 145)):=⟨_,rfl⟩
  rw[←hWA] at HZ HX HB ⊢;clear t0 t1 t2 t3 u0 u1 u2 u3 n2 o2;have HBA:=Hd (Below.refl WA.heap.size WA);clear hWA q1 q2 q3 q4;go_wp2_with fail
  go_loopw [8] (fun s8 wy=>∃(k:Nat),k≤pn∧s8=.int .i64 k∧Below WA.heap.size WA wy) (fun s _=>pn-(intOf s).toNat)
  case atStart=>exact⟨0,Nat.zero_le _,rfl,HBA.out⟩
  case round=>
   obtain⟨k,hk,rfl,hby⟩:=hrel;clear HBA;obtain⟨wy,rfl⟩:∃x:World,x=wr:=⟨_,rfl⟩
   have hzy:=HZ.out.step hby
   have z2:=hzy.cell 1 2 rfl rfl;have y2:=hzy.cell 0 2 rfl rfl
   by_cases hkl:k<pn
   ·obtain⟨bp,op,rfl,hbp,hcp⟩:=HR.out.cellS hkl
    obtain⟨bq,oq,rfl,hbq,hcq⟩:=HR'.out.cellS hkl;have z5:=((below_via HB.out hby).cell (p:=⟨bp,op+k,none⟩) hbp).trans hcp;have y5:=((below_via HB.out hby).cell (p:=⟨bq,oq+k,none⟩) hbq).trans hcq;generalize yp[k]?.getD 0=vk at z5 y5;have hvk:(vk != vk)=false:=by simp
    clear hcp hcq hzy hbp hbq;go_upto_region 13 with(fail)
    go_quiet (fail)
    go_wp2
    go_roundw
    case rel=>exact⟨k+1,hkl,by go_num,below_drewN hby _⟩
    case measure=>simp[intOf];omega
   ·obtain rfl:k=pn:=by omega
    cases yo with
    | none=>
     obtain rfl:kn=0:=HS1.out.symm;have z3:=hzy.cell 1 3 rfl rfl;have HX5:=Hd (HX.out.step hby);have HB5:=Hd (below_via HB.out hby);clear hzy hby
     go_upto_region 15 with(fail)
     go_quiet (fail)
     go_wp2
     go_roundw
     case rel=>exact⟨i+1,hlt,by go_num,HX5.out.step (below_drewN (Below.refl _ _) _),below_drewN HB5.out _⟩
     case measure=>simp[intOf];omega
    | some kid=>
     obtain rfl:kn=1:=HS1.out.symm;obtain⟨bk,ok,kd,ks,rfl,hbk,hyk,_,hon,hck⟩:=TabR.at HK.out (show 0<1 by omega);obtain⟨bj,oj,kd',js,rfl,hbj,hyj,_,hon',hcj⟩:=TabR.at HK'.out (show 0<1 by omega);cases hyk;cases hyj;have hbw:=below_via HB.out hby
     cases n with
     | zero=>exact hon.elim
     | succ n=>
     have CS:∀W,Below wy.heap.size wy W→Calls Tryz.prog 17 #[.agg ks.toArray,.agg js.toArray] W (SameTo W):=fun W hW=>IH (hon.below (below_via hbw hW)) (hon'.below (below_via hbw hW))
     obtain⟨ak,ck,rfl,_,_⟩:=hon.at;obtain⟨aj,cj,rfl,_,_⟩:=hon'.at;generalize cntT kid=mk at *;generalize kid.page=pk at *;generalize kid.isLeaf=lk at *;have c0:∀W,Below wy.heap.size wy W→W.cell? ⟨bk,ok,none⟩=some (.int .i64 pk):=fun W hW=>((below_via hbw hW).cell (p:=⟨bk,ok,none⟩) hbk).trans (by simpa using hck 0 _ rfl)
     have c1:∀W,Below wy.heap.size wy W→W.cell? ⟨bk,ok+1,none⟩=some (.bool lk):=fun W hW=>((below_via hbw hW).cell (p:=⟨bk,ok+1,none⟩) hbk).trans (by simpa using hck 1 _ rfl)
     have c2:∀W,Below wy.heap.size wy W→W.cell? ⟨bk,ok+2,none⟩=some (.slice ak mk ck):=fun W hW=>((below_via hbw hW).cell (p:=⟨bk,ok+2,none⟩) hbk).trans (by simpa using hck 2 _ rfl)
     have j0:∀W,Below wy.heap.size wy W→W.cell? ⟨bj,oj,none⟩=some (.int .i64 pk):=fun W hW=>((below_via hbw hW).cell (p:=⟨bj,oj,none⟩) hbj).trans (by simpa using hcj 0 _ rfl)
     have j1:∀W,Below wy.heap.size wy W→W.cell? ⟨bj,oj+1,none⟩=some (.bool lk):=fun W hW=>((below_via hbw hW).cell (p:=⟨bj,oj+1,none⟩) hbj).trans (by simpa using hcj 1 _ rfl)
     have j2:∀W,Below wy.heap.size wy W→W.cell? ⟨bj,oj+2,none⟩=some (.slice aj mk cj):=fun W hW=>((below_via hbw hW).cell (p:=⟨bj,oj+2,none⟩) hbj).trans (by simpa using hcj 2 _ rfl)
     have z3:∀W,Below wy.heap.size wy W→W.cell? ⟨wr.heap.size,3,none⟩=some (.slice (some ⟨bk,ok,none⟩) 1 kc):=fun W hW=>(hzy.step hW).cell 1 3 rfl rfl
     have y3:∀W,Below wy.heap.size wy W→W.cell? ⟨wr.heap.size+1,3,none⟩=some (.slice (some ⟨bj,oj,none⟩) 1 lc):=fun W hW=>(hzy.step hW).cell 0 3 rfl rfl
     have hC0:Below wy.heap.size wy wy.drew:=(Below.refl _ _).drew;have HX5:=Hd (HX.out.step hby);have HB5:=Hd hbw;clear hzy hby hbw hck hcj hon hon';go_upto_region 15 with(fail)
     go_region_held3 (fun W=>Below wy.heap.size wy W) (first|with_reducible assumption|(repeat (with_reducible first|assumption|exact Below.refl _ _|apply Below.al|apply Below.dr))) (first|(go_at_call 17;(with_reducible refine(CS _ ?_).mono ?_);(focus (repeat (with_reducible first|assumption|exact Below.refl _ _|apply Below.al|apply Below.dr)));rintro e w12 ⟨rfl,hb12⟩;have hB12:Below wy.heap.size wy w12:=below_via (by(repeat (with_reducible first|assumption|exact Below.refl _ _|apply Below.al|apply Below.dr))) hb12))
     go_wp2_with fail;go_roundw
     case rel=>exact⟨i+1,hlt,by go_num,HX5.out.step hB12,below_via HB5.out hB12⟩
     case measure=>simp[intOf];omega
theorem same_any:∀{n:Nat} {F G:Nat→Prop} {w:World} {cs ds:List Value} {t:Tr},RNodeOn F n w cs t→RNodeOn G n w ds t→Calls Tryz.prog 17 #[.agg cs.toArray,.agg ds.toArray] w (SameTo w)
 | 0,_,_,_,_,_,_,h,_=>h.elim
 | _n+1,_,_,_,_,_,_,h,g=>same_step (fun h g=>same_any h g) h g

open Go.RowKit
theorem NodeOn.words {F:Nat→Prop} {n:Nat} {w:World} {cs:List Value} {t:Tr} (h:NodeOn F n w cs t) :
 ∃a1 c1 a2 n2 c2 a3 n3 c3,cs=[.int .i64 t.page,.bool t.isLeaf,.slice a1 (cntT t) c1,.slice a2 n2 c2,.slice a3 n3 c3]∧cntT t≤c1∧c1≤9223372036854775807:=by
 obtain⟨ka,kc,va,vn,vc,ca,cn,cc,V,C,e,h1,_⟩:=h.open_pos;exact⟨ka,kc,va,vn,vc,ca,cn,cc,e,h1.lens.2.1,h1.lens.2.2⟩
end Go.Proofs.YtpghlmcoajaiiaaGreatDoor
namespace Go.Proofs.YtpghlmcoajaiiaaGreatDoor
open Go.RowKit Go.Deep Go.WideShapes Go.ChangeShapes
theorem bs_of_frame {w:World} {a:Option Addr} {len cap:Nat} {z:List Int}
 (h:(a=none∧len=0∧cap=0∧z=[])∨∃x,a=some x∧len≤cap∧cap≤maxLen∧z.length=cap∧(∀i,i<z.length→w.cell? (x.add i)=some (.int .u8 (z.getD i 0)))∧∀n∈z,(Lit.int .u8 n).wf=true) :
 ∃l,Bs w a len cap l:=by
 have h:=Row.of_frame h;refine⟨ofI (z.take len),?_⟩;show Row .u8 w a len cap (toI (ofI (z.take len)));rw[toI_ofI _ h.2];exact h.1
section
variable {H:Type} {enc:TypeId×Value→H} {P:Program} {w:World} {base:Nat}
theorem read_bs {t e:TypeId} (ht:P.underlying t=some (.slice e)) (he:P.underlying e=some (.int .u8)) (hc:P.cellsOf e=1) :
 ∀n cs x,cs.length=1→DataW.trod enc P w 0 (fun _=>true) true n t cs=some x→∃y,IsBs w cs y:=by
 intro n cs x hlen h
 rcases open_ints ht he hc h with⟨rfl,_⟩|⟨x,l,c,zs,rfl,_,hl,hm,hz,_,hcell,hwz⟩
 ·obtain⟨y,hy⟩:=bs_of_frame (w:=w) (a:=none) (len:=0) (cap:=0) (z:=[]) (.inl ⟨rfl,rfl,rfl,rfl⟩)
  exact⟨y,_,_,_,rfl,hy⟩
 ·obtain⟨y,hy⟩:=bs_of_frame (w:=w) (a:=some x) (len:=l) (cap:=c) (z:=zs) (.inr ⟨_,rfl,hl,hm,by simpa using hz,hcell,hwz⟩)
  exact⟨y,_,_,_,rfl,hy⟩
end
end Go.Proofs.YtpghlmcoajaiiaaGreatDoor
namespace Go.Proofs.YtpghlmcoajaiiaaGreatDoor
open Go.RowKit Go.Deep Go.WideShapes Go.ChangeShapes
structure Wrt where
 page:Int
 a:Option Addr
 n:Nat
 cap:Nat
 b:List UInt8
def IsWrt (w:World) (cs:List Value) (y:Wrt):Prop:=cs=[.int .i64 y.page,.slice y.a y.n y.cap]∧Bs w y.a y.n y.cap y.b
def Wrts (w:World) (a:Option Addr) (len cap:Nat) (l:List Wrt):Prop:=TabR 2 (IsWrt w) w a len cap l
section
variable {H:Type} {enc:TypeId×Value→H} {P:Program} {w:World} {base:Nat}
theorem rd_wrt {t e:TypeId} {f0 f1:Field} (ht:P.underlying t=some (.struct #[f0,f1])) (o0:f0.offset=0) (o1:f1.offset=1) (c0:P.cellsOf f0.type=1) (c1:P.cellsOf f1.type=1)
 (u0:P.underlying f0.type=some (.int .i64)) (u1:P.underlying f1.type=some (.slice e)) (ue:P.underlying e=some (.int .u8)) (ce:P.cellsOf e=1) :
 ∀n cs x,cs.length=2→DataW.trod enc P w 0 (fun _=>true) true n t cs=some x→∃y:Wrt,IsWrt w cs y:=by
 intro n cs x hlen h;obtain⟨xs,k,_,_,_,hxl,hf⟩:=DataW.trod_struct ht h
 match xs,hxl,cs,hlen with
 | [y0,y1],_,[v0,v1],_=>
  have g0:=hf 0 f0 rfl;have g1:=hf 1 f1 rfl;simp[o0,o1,c0,c1] at g0 g1;obtain⟨n0,e0,_,_⟩:=DataW.trod_int u0 g0;obtain⟨y,a,len,cap,e1,hb⟩:=read_bs u1 ue ce _ _ _ (by simp) g1;simp at e0 e1;exact⟨⟨n0,a,len,cap,y⟩,by rw[e0,e1],hb⟩
theorem open_wrts_of {t e s:TypeId} {f0 f1:Field} (ht:P.underlying t=some (.slice e)) (he:P.underlying e=some (.struct #[f0,f1])) (hc:P.cellsOf e=2) (o0:f0.offset=0) (o1:f1.offset=1)
 (c0:P.cellsOf f0.type=1) (c1:P.cellsOf f1.type=1) (u0:P.underlying f0.type=some (.int .i64)) (u1:P.underlying f1.type=some (.slice s)) (us:P.underlying s=some (.int .u8)) (cs:P.cellsOf s=1)
 {v:Value} {d:DataW H} {p:List MemPlace} (hv:Value.okWide P w .any base t v) (h:DataW.Trod enc P w 0 (fun _=>true) true t v d p) :
 ∃a len cap l,v=.slice a len cap∧Wrts w a len cap l:=
 open_tab ht hc (by decide) (IsWrt w) (rd_wrt he o0 o1 c0 c1 u0 u1 us cs) hv h
end
theorem open_wrts {H:Type} {enc:TypeId×Value→H} {w:World} {base:Nat} {v:Value} {d:DataW H} {p:List MemPlace} (hv:Value.okWide Tryz.prog w .any base 23 v) (h:DataW.Trod enc Tryz.prog w 0 (fun _=>true) true 23 v d p) :
 ∃a len cap l,v=.slice a len cap∧Wrts w a len cap l:=
 open_wrts_of Tryz.underlying23 Tryz.underlying45 (by kernel_rfl) (by rfl) (by rfl) (by kernel_rfl) (by kernel_rfl) Tryz.underlying3 Tryz.underlying42 Tryz.underlying5 (by kernel_rfl) hv h
theorem Wrts.below {w w':World} {a:Option Addr} {len cap:Nat} {l:List Wrt} {B:Nat} (h:Wrts w a len cap l) (hB:w.heap.size≤B) (hb:Below B w w'):Wrts w' a len cap l:=
 (TabR.below hB hb h).mono fun _ _ hy=>⟨hy.1,hy.2.below hB hb⟩
theorem Wrts.at {w:World} {a:Option Addr} {len cap:Nat} {l:List Wrt} (h:Wrts w a len cap l) {k:Nat} (hk:k<len) :
 ∃b off y,a=some ⟨b,off,none⟩∧b<w.heap.size∧l[k]? = some y∧w.cell? ⟨b,off+k*2,none⟩=some (.int .i64 y.page)∧w.cell? ⟨b,off+k*2+1,none⟩=some (.slice y.a y.n y.cap)∧Bs w y.a y.n y.cap y.b:=by
 obtain⟨b,off,y,cs,e1,e2,e3,_,e5,e6⟩:=TabR.at h hk;obtain⟨rfl,h9⟩:=e5;exact⟨b,off,y,e1,e2,e3,by simpa using e6 0 _ rfl,e6 1 _ rfl,h9⟩
end Go.Proofs.YtpghlmcoajaiiaaGreatDoor
namespace Go.Proofs.YtpghlmcoajaiiaaGreatDoor
open Go.RowKit
def codeD:Except Int Tr→Int
 | .ok _=>0
 | .error x=>x
theorem valsL_ne {d:List Rg} {r:Int}:∀{l:List En} {seen:List Int} {x:Int},valsL d r seen l=.error x→x≠0
 | [],_,_,h=>by cases h
 | e::l,seen,x,h=>by
  unfold valsL at h
  split at h
  ·rename_i y hv
   cases h;unfold valL at hv
   split at hv
   ·cases hv
   ·split at hv
    ·cases hv;assumption
    ·split at hv
     ·cases hv;decide
     ·cases hv
  ·split at h
   ·rename_i y hv
    cases h;exact valsL_ne hv
   ·cases h
theorem kidsL_ne {f:List Int→Int→Except Int (List Int×Tr)} (hf:∀seen p x,f seen p=.error x→x≠0):∀{l:List En} {seen:List Int} {x:Int},kidsL f seen l=.error x→x≠0
 | [],_,_,h=>by cases h
 | e::l,seen,x,h=>by
  unfold kidsL at h
  split at h
  ·rename_i y hv
   cases h;exact hf _ _ _ hv
  ·split at h
   ·rename_i y hv
    cases h;exact kidsL_ne hf hv
   ·cases h
theorem loadT_ne {d:List Rg} {r:Int}:∀{n:Nat} {seen:List Int} {p x:Int},loadT d r n seen p=.error x→x≠0
 | 0,_,_,_,h=>by cases h;decide
 | n+1,seen,p,x,h=>by
  unfold loadT at h
  split at h
  ·cases h;decide
  ·split at h
   ·cases h;assumption
   ·split at h
    ·cases h;assumption
    ·split at h
     ·split at h
      ·rename_i y hv
       cases h;exact valsL_ne hv
      ·cases h
     ·split at h
      ·rename_i y hv
       cases h;exact kidsL_ne (fun _ _ _ h=>loadT_ne h) hv
      ·cases h
theorem loadD_ne {d:List Rg} {r root x:Int} (h:loadD d r root=.error x):x≠0:=by
 unfold loadD at h
 split at h
 ·cases h
 ·split at h
  ·rename_i y hv
   cases h;exact loadT_ne hv
  ·split at h
   ·cases h
   ·cases h;decide
theorem loadD_bnd {d:List Rg} {r root:Int} {t:Tr} (h:loadD d r root=.ok t):Bnd 1000 t:=by
 unfold loadD at h
 split at h
 ·cases h
  exact⟨by simp,fun c hc=>by cases hc⟩
 ·split at h
  ·cases h
  ·rename_i hv
   split at h
   ·cases h
    exact(loadT_bnd hv).1
   ·cases h
def LoadC (w:World) (R:Except Int Tr) (e:Ending) (w':World):Prop:=
 Below w.heap.size w w'∧∃p lf ka kn kc va vn vc ca cn cc,e=.returned (.tuple #[.agg #[.int .i64 p,.bool lf,.slice ka kn kc,.slice va vn vc,.slice ca cn cc],.int .i64 (codeD R)])∧∀t,R=.ok t→NodeOn (fun b=>w.heap.size≤b) 1000 w' [.int .i64 p,.bool lf,.slice ka kn kc,.slice va vn vc,.slice ca cn cc] t
theorem LoadPost.code {w:World} {R:Except Int Tr} {e:Ending} {w':World} (h:LoadPost w R e w'):LoadC w R e w':=by
 obtain⟨hb,h⟩:=h;cases R with
 | ok t=>
  obtain⟨cs,rfl,hn⟩:=h;obtain⟨a1,c1,a2,n2,c2,a3,n3,c3,rfl,_⟩:=hn.words;exact⟨hb,_,_,_,_,_,_,_,_,_,_,_,rfl,fun t e=>by cases e;exact hn⟩
 | error x=>exact⟨hb,_,_,_,_,_,_,_,_,_,_,_,h,fun t e=>by cases e⟩
def RLoadC (w:World) (R:Except Int Tr) (e:Ending) (w':World):Prop:=
 Below w.heap.size w w'∧∃p lf ka kn kc,e=.returned (.tuple #[.agg #[.int .i64 p,.bool lf,.slice ka kn kc],.int .i64 (codeD R)])∧∀t,R=.ok t→RNodeOn (fun b=>w.heap.size≤b) 1000 w' [.int .i64 p,.bool lf,.slice ka kn kc] t
theorem RLoadTo.code {w:World} {R:Except Int Tr} {e:Ending} {w':World} (h:RLoadTo w R e w'):RLoadC w R e w':=by
 obtain⟨hb,h⟩:=h;cases R with
 | ok t=>
  obtain⟨cs,rfl,hn⟩:=h;obtain⟨a,m,c,rfl⟩:=RNodeOn.open_pos hn;exact⟨hb,_,_,_,_,_,rfl,fun t e=>by cases e;exact hn⟩
 | error x=>exact⟨hb,_,_,_,_,_,h,fun t e=>by cases e⟩
theorem lay_page {N n:Nat} {t:Tr} (h:Whole n t) (hb:Bare t) {s:List Int} (hs:Spots N s) (hl:freshN n t≤s.length):0≤(layT n t s).1.page∧(layT n t s).1.page≤999:=by
 by_cases h0:freshN n t=0
 ·have ht:=fresh_zero h h0
  have hp0:t.page=0:=hb.page0;rw[hp0] at ht;subst ht;cases n with
  | zero=>exact h.1.1.elim
  | succ n=>
   rw[layT,if_pos rfl];show(0:Int)≤0∧(0:Int)≤999;omega
 ·obtain⟨p,e1,e2,e3,e4⟩:=layT_page (fits_whole h hb h0) hs hl
  have:=pgC_lt e3;rw[e1];omega
theorem Both.gsk {B:Nat} {w:World} {da M:Nat} {d e:List Rg} {a:Option Addr} {n cap:Nat} (h:Both B w da M d a n cap e):∃K,GsK K w a n cap e:=by
 obtain⟨F,bs,h1,h2,h3,h4⟩:=h;exact⟨_,h4⟩
theorem DOk.new:DOk (newD [1000]):=fun x hx=>by
 simp only[newD,List.mem_map] at hx;obtain⟨n,hn,rfl⟩:=hx;simp at hn;subst hn;exact Nat.le_refl _
theorem DOk.write {d:List Rg} (h:DOk d) (r p:Int) (b:List UInt8):DOk (writeD d r p b):=fun x hx=>by
 unfold writeD at hx
 split at hx
 ·rename_i hu
  rcases List.mem_or_eq_of_mem_set hx with hx|rfl
  ·exact h x hx
  ·obtain⟨i,pn,y,rfl,rfl,hy,_⟩:=pagedE_zero hu.1
   rw[atR_of hy];have:=h y (List.mem_of_getElem? hy);have e1:(cntR y).size=y.size:=by unfold cntR;split<;>(try split)<;>rfl
   unfold wroteR
   split
   ·show(cntR y).size≤1000
    omega
   ·omega
 ·exact h x hx
theorem Both.opens_at {B:Nat} {w w1:World} {da M:Nat} {d e:List Rg} {a:Option Addr} {n cap:Nat} (h:Both B w da M d a n cap e) (hb:Below w.heap.size w w1):Opens B w.heap.size w1 da M d (fun w' M' d'=>Both B w' da M' d' a n cap e∧Below B w w'):=h.opens.below hb
theorem lLoads (a:Option Addr) (n c:Nat) (l:List Pz) (a2:Option Addr) (n2 c2:Nat) (l2:List Wrt) (root:Int) (w:World) (h1:Pzs w a n c l) (h2:Wrts w a2 n2 c2 l2) (hr:I64 root) (hh:Half w) :
 Calls Tryz.prog 3 #[.slice a n c,.slice a2 n2 c2,.int .i64 root] w fun e w'=>e=.returned (.bool true)∧Below w.heap.size w w':=by
 have A:=awake20_any w hh;have hc2:=(TabR.lens h2).2;unfold maxLen at hc2;have H1:=Hd h1;have H2:=Hd h2;clear h1 h2;go_enter Tryz.func3,Tryz.ntmps3;go_wp2_with fail;refine A.mono ?_;rintro e w0 ⟨rfl,hb0⟩;have L:=laid_any (TabR.below (Nat.le_refl _) hb0 H1.out:Pzs w0 a n c l) (fr:=0) (by omega);have HB0:=Hd hb0;clear A hb0;go_wp2_with fail;refine L.mono ?_;rintro e w1 ⟨hb1,hres⟩;have HB1:=Hd (below_then HB0.out hb1);clear L
 rcases hres with⟨hs,p,lf,a9,m9,c9,vW,rfl⟩|⟨hs,N,T,hlr,R,hR,p,lf,a9,m9,c9,aW,cW,rfl,hn,ho⟩
 ·have HB2:=Hd (below_then HB1.out (show Below w1.heap.size w1 (w1.alloc (.cells #[.int .i64 p,.bool lf,.slice a9 m9 c9] 27)) from Below.al (Below.refl _ _)))
  clear hs hb1;go_wp2_with fail;go_ret;exact⟨rfl,HB2.out⟩
 by_cases hn2:20<n2
 ·have d1:decide ((20:Int)<n2)=true:=by simp;omega
  have d1':decide (20<n2)=true:=by simp;omega
  have HB2:=Hd (below_then HB1.out (show Below w1.heap.size w1 (w1.alloc (.cells #[.int .i64 p,.bool lf,.slice a9 m9 c9] 27)) from Below.al (Below.refl _ _)));clear hs hb1 hlr hR hn ho;go_wp2_with fail;go_ret;exact⟨rfl,HB2.out⟩
 have d1:decide ((20:Int)<n2)=false:=by simp;omega
 have d1':decide (20<n2)=false:=by simp;omega
 have hl60:l.length≤60:=by unfold smallZ at hs;simp at hs;exact hs.2
 have hsp:Spots 1000 (atZ 0 (freshN N T)):=atZ_spots (fr:=0) (by have:=hlr.fresh;omega) (by omega);obtain⟨q1,q2⟩:=whole_writes hlr.whole hlr.bare hsp (by rw[atZ_len];exact Nat.le_refl _);rw[hR] at q1 q2;have hRn:R.2.1.length≤360:=by
  have h5:=congrArg List.length q1;have h6:=hlr.fresh;simp only[List.length_map,List.length_take,atZ_len] at h5;omega
 obtain⟨w2,hw2⟩:∃x,w1.alloc (.cells #[.int .i64 p,.bool lf,.slice a9 m9 c9] 27)=x:=⟨_,rfl⟩
 have hpI:I64 p:=by
  obtain⟨xa,xn,xc,e⟩:=RNodeOn.open_pos hn;have hp9:=lay_page (N:=1000) hlr.whole hlr.bare hsp (by rw[atZ_len];exact Nat.le_refl _);rw[hR] at hp9;have hpe:p=R.1.page:=by
   injection e with e _
   injection e
  rw[hpe];unfold I64;omega
 have hb12:Below w1.heap.size w1 w2:=by rw[←hw2];exact Below.al (Below.refl _ _)
 have hWR:=(Wrs.own ho)
 have hWR2:Wrs w2 aW R.2.1.length cW R.2.1:=TabR.below (Nat.le_refl _) hb12 hWR;have hcW:=(TabR.lens hWR).2;unfold maxLen at hcW;have hx2:Boxes w2 [(w1.heap.size,[.int .i64 p,.bool lf,.slice a9 m9 c9])]:=by rw[←hw2];exact(Boxes.nil w1).alloc #[.int .i64 p,.bool lf,.slice a9 m9 c9] 27 rfl
 have hbw2:Below w.heap.size w w2:=below_then HB1.out hb12;have hM:Wrts w2 a2 n2 c2 l2:=H2.out.below (Nat.le_refl _) hbw2;have HP:=Hd hWR2;have HM:=Hd hM;have HX:=Hd hx2;have HB2:=Hd hbw2;have HQ:=Hd q2;have HPI:=Hd hpI;have D:=new_ok (aw_one20 w2 1000) (by decide);have hA2:Below w2.heap.size w2 (w2.alloc (.cells #[.int .i64 1000] 3)):=(Below.refl _ _).alloc (Nat.le_refl _) _;have hsz2:(w2.alloc (.cells #[.int .i64 1000] 3)).heap.size=w2.heap.size+1:=by simp
 clear hs hb1 hlr hR hn ho q1 q2 hl60 hsp hpI hb12 hWR hWR2 hx2 hbw2 hM H1 H2 HB0 HB1;go_wp2_with fail;refine D.mono ?_;rintro e w3 ⟨db,rfl,hd3,hb3⟩;rw[hsz2] at hd3;have hw3:Below w2.heap.size w2 w3:=below_then hA2 hb3;have RN:=rnew_any (aw_one20 w3 1000) (by decide);have hA3:Below w3.heap.size w3 (w3.alloc (.cells #[.int .i64 1000] 3)):=(Below.refl _ _).alloc (Nat.le_refl _) _;have hN3:w3.heap.size≤(w3.alloc (.cells #[.int .i64 1000] 3)).heap.size:=by simp
 clear D hb3 hsz2 hA2;go_wp2_with fail;refine RN.mono ?_;rintro e w4 ⟨hb4,hp4⟩;rw[if_pos (by decide)] at hp4;obtain⟨a4,c4,rfl,hg4⟩:=hp4;have hb34:=below_then hA3 hb4;have hB4:Both (w2.heap.size+1) w4 db 0 (newD [1000]) a4 1 c4 (newD [1000]):=Both.mk hd3 hb34 hN3 hg4;have HD3:=Hd hB4;have HW3:=Hd (below_then hw3 hb34);clear RN hb4 hg4 hb34 hB4 hd3 hA3 hN3 hw3;go_wp2_with fail
 go_loopw [13,15] (fun s13 s15 wr=>∃(i:Nat) (d:List Rg) (a8:Option Addr) (c8:Nat),i≤R.2.1.length∧s15=.int .i64 i∧s13=.slice a8 1 c8∧Both (w2.heap.size+1) wr db i d a8 1 c8 d∧(∀x∈d,x.loose.length≤i)∧DOk d∧Below w2.heap.size w2 wr) (fun _ s _=>R.2.1.length-(intOf s).toNat)
 case atStart=>exact⟨0,_,a4,c4,Nat.zero_le _,rfl,rfl,HD3.out,new_loose _,DOk.new,HW3.out⟩
 case round=>
  clear HD3 HW3;obtain⟨i,d,a8,c8,hi,rfl,rfl,hd,hlo,hok,hb⟩:=hrel;have hdl:=hd.gs.1
  by_cases hlt:i<R.2.1.length
  ·obtain⟨bl,ol,y,rfl,hbl,hy,c0,c1⟩:=HP.out.at hlt
   have hlt':(i:Int)<(R.2.1.length:Int):=by omega
   have hy128:=HQ.out y (List.mem_of_getElem? hy);have zm:=Mk.i 414792;exact q2a6c41
  ·obtain rfl:i=R.2.1.length:=by omega
   have hlt':decide ((R.2.1.length:Int)<(R.2.1.length:Int))=false:=by simp
   have HD:=Hd hd;have HLO:=Hd hlo;have HOK:=Hd hok;have HBX:=Hd hb;clear hd hlo hok hb hdl;go_wp2_with fail
   go_loopw [13,16] (fun s13 s16 wr=>∃(i:Nat) (d:List Rg) (a8:Option Addr) (c8:Nat),i≤n2∧s16=.int .i64 i∧s13=.slice a8 1 c8∧Both (w2.heap.size+1) wr db (R.2.1.length+i) d a8 1 c8 d∧(∀x∈d,x.loose.length≤R.2.1.length+i)∧DOk d∧Below w2.heap.size w2 wr) (fun _ s _=>n2-(intOf s).toNat)
   case atStart=>exact⟨0,_,a8,c8,Nat.zero_le _,rfl,rfl,HD.out,HLO.out,HOK.out,HBX.out⟩
   case round=>
    clear HD HLO HOK HBX;obtain⟨i,d,a8,c8,hi,rfl,rfl,hd,hlo,hok,hb⟩:=hrel;have hdl:=hd.gs.1
    by_cases hlt:i<n2
    ·obtain⟨b9,o9,y,e9,hb9,hy,k0,k1,hbs⟩:=HM.out.at hlt
     subst e9;have hop:=(hd.below (w':=wr.drew) (below_drewN (Below.refl _ _) 1)).opens;have C:=write_o2 hop ((hbs.below (Nat.le_refl _) hb).below (Nat.le_refl _) (below_drewN (Below.refl _ _) 1)) (fun hn g off e=>.inl (by
      obtain⟨g',off',e',hg',_⟩:=hbs.cell (k:=0) (by omega);rw[e] at e';cases e';omega)) (by omega) 0 y.page
     have cA:∀W,Below w2.heap.size w2 W→W.cell? ⟨b9,o9+i*2,none⟩=some (.int .i64 y.page):=fun W hW=>(hW.cell (p:=⟨b9,o9+i*2,none⟩) hb9).trans k0
     have cB:∀W,Below w2.heap.size w2 W→W.cell? ⟨b9,o9+i*2+1,none⟩=some (.slice y.a y.n y.cap):=fun W hW=>(hW.cell (p:=⟨b9,o9+i*2+1,none⟩) hb9).trans k1
     have cV:∀W,Below w2.heap.size w2 W→(convert 42 9 (.slice y.a y.n y.cap)).run Tryz.prog W=.ok (.string (strOf y.b)) W:=fun W hW=>conv_string Tryz.underlying42 Tryz.underlying5 Tryz.underlying9 (hbs.below (Nat.le_refl _) hW)
     have HLO:=Hd hlo;have HOK:=Hd hok;have HDL:=Hd hdl;have hb0:Below w2.heap.size w2 wr.drew:=hb.drew;have hyc:=hbs.2.1;clear hd hb k0 k1 hbs hop hlo hy hdl hok;go_wp2_with fail
     go_region_held3 (fun W=>Below w2.heap.size w2 W) (with_reducible assumption) (first|(go_at_call 13;refine C.mono ?_;rintro e wx ⟨rfl,hdx,hbx⟩;have hBx:Below w2.heap.size w2 wx:=hb0.trans (hbx.mono (by omega))))
     all_goals
      have hd2:Both (w2.heap.size+1) wx.drew db (R.2.1.length+i+1) (writeD d 0 y.page y.b) a8 1 c8 d:=hdx.below (below_drewN (Below.refl _ _) 1);have C2:=both_write hd2 (by omega) (fun x hx=>by have:=HLO.out x hx;omega) 0 y.page y.b;have hb1:Below w2.heap.size w2 wx.drew:=hBx.drew;clear hdx hbx hb0 C hd2;go_wp2_with fail
      go_region_held3 (fun W=>Below w2.heap.size w2 W) (with_reducible assumption) (first|(go_at_call 14;refine C2.mono ?_;rintro e wy ⟨a9,n9,c9,rfl,hdy,hby⟩;have hBy:Below w2.heap.size w2 wy:=below_then hb1 hby))
     all_goals
      have hn9:n9=1:=by have h2:=hdy.gs.1;rw[write_length] at h2;have h3:=HDL.out;omega
      subst hn9;have HDY:=Hd hdy;have HLY:=Hd (write_loose HLO.out 0 y.page y.b);have HOY:=Hd (HOK.out.write 0 y.page y.b);have HBY:=Hd hBy;clear cA cB cV hdy hBy hby hb1 C2;exact qd75aca
    ·obtain rfl:i=n2:=by omega
     have hcp:=HX.out.step hb;have f0:=hcp.cell 0 0 rfl rfl;have HBW:=Hd (below_then HB2.out hb);have HD:=Hd hd;have HOK:=Hd hok;obtain⟨q,hq⟩:∃x,(if root=1 then p else root)=x:=⟨_,rfl⟩
     have HQ2:=Hd hq;clear hd hlo hok hb hdl hcp hq
     go_upto_if 120 with(fail)
     go_cut [2] (fun s wx=>s=.int .i64 q∧wr=wx)
     case first=>
      by_cases hr1:root=1
      ·obtain rfl:p=q:=by rw[←HQ2.out,if_pos hr1]
       subst hr1;exact qb98405
      ·obtain rfl:root=q:=by rw[←HQ2.out,if_neg hr1]
       have d9:decide (root=1)=false:=by simp[hr1]
       have d9':(root == 1)=false:=by simp[hr1]
       exact qb98405
     case rest=>
     obtain⟨rfl,rfl⟩:=hcut;have hqI:I64 q:=by
      rw[←HQ2.out]
      split
      ·exact HPI.out
      ·exact hr
     obtain⟨R0,hR0⟩:∃x,loadD d 0 q=x:=⟨_,rfl⟩
     obtain⟨R1,hR1⟩:∃x,loadD d 1 q=x:=⟨_,rfl⟩
     have G1:=(load_any HD.out.one (hh.below (Nat.le_refl _) HBW.out) 0 q hqI).mono fun e w' h=>h.code
     rw[hR0] at G1;have HR0:=Hd hR0;have HR1:=Hd hR1;obtain⟨E0,hE0⟩:∃x,codeD R0=x:=⟨_,rfl⟩
     obtain⟨E1,hE1⟩:∃x,codeD R1=x:=⟨_,rfl⟩
     have HE0:=Hd hE0;have HE1:=Hd hE1;clear hR0 hR1 hE0 hE1;go_wp2_with fail;refine G1.mono ?_;rintro e w5 ⟨hb5,p5,l5,ka5,kn5,kc5,va5,vn5,vc5,ca5,cn5,cc5,rfl,hn5⟩;rw[HE0.out];obtain⟨w6,hw6⟩:∃x,w5.alloc (.cells #[.int .i64 p5,.bool l5,.slice ka5 kn5 kc5,.slice va5 vn5 vc5,.slice ca5 cn5 cc5] 50)=x:=⟨_,rfl⟩
     have hbaw6:Below w5.heap.size w5 w6:=by rw[←hw6];exact Below.al (Below.refl _ _)
     have hx6:Boxes w6 [(w5.heap.size,[.int .i64 p5,.bool l5,.slice ka5 kn5 kc5,.slice va5 vn5 vc5,.slice ca5 cn5 cc5])]:=by rw[←hw6];exact(Boxes.nil w5).alloc #[.int .i64 p5,.bool l5,.slice ka5 kn5 kc5,.slice va5 vn5 vc5,.slice ca5 cn5 cc5] 50 rfl
     have hB6:=below_via hb5 hbaw6;have RL1:=(rLoad_any (HD.out.below hB6).gsk HOK.out (by omega) 0 q).mono fun e w' h=>h.code
     rw[HR0.out] at RL1;have HX6:=Hd hx6;have HB6:=Hd hB6;have HN5:=Hd (fun t e=>(hn5 t e).below hbaw6);clear G1 hb5 hx6 hB6 hbaw6 hn5;go_wp2_with fail;refine RL1.mono ?_;rintro e w7 ⟨hb7,p7,l7,ka7,kn7,kc7,rfl,hn7⟩;rw[HE0.out];obtain⟨w8,hw8⟩:∃x,w7.alloc (.cells #[.int .i64 p7,.bool l7,.slice ka7 kn7 kc7] 27)=x:=⟨_,rfl⟩
     have hbaw8:Below w7.heap.size w7 w8:=by rw[←hw8];exact Below.al (Below.refl _ _)
     have hx8:Boxes w8 [(w7.heap.size,[.int .i64 p7,.bool l7,.slice ka7 kn7 kc7])]:=by rw[←hw8];exact(Boxes.nil w7).alloc #[.int .i64 p7,.bool l7,.slice ka7 kn7 kc7] 27 rfl
     have hB78:=below_via hb7 hbaw8;have hB8:=below_via HB6.out hB78;have G2:=(load_any (HD.out.below hB8).one (hh.below (Nat.le_refl _) (below_then HBW.out hB8)) 1 q hqI).mono fun e w' h=>h.code
     rw[HR1.out] at G2;have HX68:=Hd (HX6.out.step hB78);have HX8:=Hd hx8;have HB8:=Hd hB8;have HN58:=Hd (fun t e=>(HN5.out t e).below hB78);have HN7:=Hd (fun t e=>(hn7 t e).below hbaw8);clear RL1 hb7 hx8 hB8 hB78 hbaw8 hn7 HX6 HB6 HN5;go_wp2_with fail;refine G2.mono ?_;rintro e w9 ⟨hb9,p9,l9,ka9,kn9,kc9,va9,vn9,vc9,ca9,cn9,cc9,rfl,_⟩;rw[HE1.out];obtain⟨w10,hw10⟩:∃x,w9.alloc (.cells #[.int .i64 p9,.bool l9,.slice ka9 kn9 kc9,.slice va9 vn9 vc9,.slice ca9 cn9 cc9] 50)=x:=⟨_,rfl⟩
     have hbaw10:Below w9.heap.size w9 w10:=by rw[←hw10];exact Below.al (Below.refl _ _)
     have hx10:Boxes w10 [(w9.heap.size,[.int .i64 p9,.bool l9,.slice ka9 kn9 kc9,.slice va9 vn9 vc9,.slice ca9 cn9 cc9])]:=by rw[←hw10];exact(Boxes.nil w9).alloc #[.int .i64 p9,.bool l9,.slice ka9 kn9 kc9,.slice va9 vn9 vc9,.slice ca9 cn9 cc9] 50 rfl
     have hB9:=below_via hb9 hbaw10;have hB10:=below_via HB8.out hB9;have RL2:=(rLoad_any (HD.out.below hB10).gsk HOK.out (by omega) 1 q).mono fun e w' h=>h.code
     rw[HR1.out] at RL2;have HX610:=Hd (HX68.out.step hB9);have HX810:=Hd (HX8.out.step hB9);have HB10:=Hd hB10;have HN510:=Hd (fun t e=>(HN58.out t e).below hB9);have HN710:=Hd (fun t e=>(HN7.out t e).below hB9);clear G2 hb9 hx10 hB9 hB10 hbaw10 HX68 HX8 HB8 HN58 HN7;go_wp2_with fail;refine RL2.mono ?_;rintro e w11 ⟨hb11,p11,l11,ka11,kn11,kc11,rfl,_⟩;rw[HE1.out];obtain⟨w12,hw12⟩:∃x,w11.alloc (.cells #[.int .i64 p11,.bool l11,.slice ka11 kn11 kc11] 27)=x:=⟨_,rfl⟩
     have hbaw12:Below w11.heap.size w11 w12:=by rw[←hw12];exact Below.al (Below.refl _ _)
     have hx12:Boxes w12 [(w11.heap.size,[.int .i64 p11,.bool l11,.slice ka11 kn11 kc11])]:=by rw[←hw12];exact(Boxes.nil w11).alloc #[.int .i64 p11,.bool l11,.slice ka11 kn11 kc11] 27 rfl
     have hB11:=below_via hb11 hbaw12;have HB12:=Hd (below_then HBW.out (below_via HB10.out hB11));have hxa:=HX610.out.step hB11;have hxb:=HX810.out.step hB11;have hna:=fun t e=>(HN510.out t e).below hB11
     have hnb:=fun t e=>(HN710.out t e).below hB11
     have a0:∀W,Below w12.heap.size w12 W→W.cell? ⟨w5.heap.size,0,none⟩=some (.int .i64 p5):=fun W hW=>(hxa.step hW).cell 0 0 rfl rfl
     have a1:∀W,Below w12.heap.size w12 W→W.cell? ⟨w5.heap.size,1,none⟩=some (.bool l5):=fun W hW=>(hxa.step hW).cell 0 1 rfl rfl
     have a2:∀W,Below w12.heap.size w12 W→W.cell? ⟨w5.heap.size,2,none⟩=some (.slice ka5 kn5 kc5):=fun W hW=>(hxa.step hW).cell 0 2 rfl rfl
     have a3:∀W,Below w12.heap.size w12 W→W.cell? ⟨w5.heap.size,3,none⟩=some (.slice va5 vn5 vc5):=fun W hW=>(hxa.step hW).cell 0 3 rfl rfl
     have a4:∀W,Below w12.heap.size w12 W→W.cell? ⟨w5.heap.size,4,none⟩=some (.slice ca5 cn5 cc5):=fun W hW=>(hxa.step hW).cell 0 4 rfl rfl
     have b0:∀W,Below w12.heap.size w12 W→W.cell? ⟨w7.heap.size,0,none⟩=some (.int .i64 p7):=fun W hW=>(hxb.step hW).cell 0 0 rfl rfl
     have b1:∀W,Below w12.heap.size w12 W→W.cell? ⟨w7.heap.size,1,none⟩=some (.bool l7):=fun W hW=>(hxb.step hW).cell 0 1 rfl rfl
     have b2:∀W,Below w12.heap.size w12 W→W.cell? ⟨w7.heap.size,2,none⟩=some (.slice ka7 kn7 kc7):=fun W hW=>(hxb.step hW).cell 0 2 rfl rfl
     have e1:(E1 == E1)=true:=by simp
     clear RL2 hb11 hx12 hB11 hbaw12 HX610 HX810 HB10 HN510 HN710 hxa hxb;cases R0 with
     | error x=>
      have hx0:x≠0:=loadD_ne HR0.out;obtain rfl:x=E0:=HE0.out;have x1:(x == 0)=false:=by simp[hx0]
      have x2:(x != 0)=true:=by simp[hx0]
      clear hna hnb hx0;have zm:=Mk.i 471518;exact qbecf1c
     | ok t=>
      obtain rfl:0=E0:=HE0.out;have hn5:=hna t rfl;have hn12:=hnb t rfl;have hbt:=loadD_bnd HR0.out;have CP:∀W,Below w12.heap.size w12 W→Calls Tryz.prog 18 #[.agg #[.int .i64 p5,.bool l5,.slice ka5 kn5 kc5,.slice va5 vn5 vc5,.slice ca5 cn5 cc5]] W (RNodeTo (fun b=>wr.heap.size≤b∧b<w12.heap.size) 1000 W t):=fun W hW=>plain20_any (fun b hb=>Nat.lt_of_lt_of_le hb.2 hW.size) (hn5.lt.below hW) hbt
      clear hna hnb;have zm:=Mk.i 9522;exact qbecf1c
end Go.Proofs.YtpghlmcoajaiiaaGreatDoor
namespace Go.Proofs.YtpghlmcoajaiiaaGreatDoor
open Go.RowKit Go.Deep Go.WideShapes Go.ChangeShapes
section
variable {H:Type} {enc:TypeId×Value→H} {P:Program} {w:World} {base:Nat}
theorem rd_pz {t:TypeId} {f0 f1:Field} (ht:P.underlying t=some (.struct #[f0,f1])) (o0:f0.offset=0) (o1:f1.offset=1)
 (c0:P.cellsOf f0.type=1) (c1:P.cellsOf f1.type=1) (u0:P.underlying f0.type=some .string) (u1:P.underlying f1.type=some (.int .i64)) :
 ∀n cs x,cs.length=2→DataW.trod enc P w 0 (fun _=>true) true n t cs=some x→∃y:Pz,IsPz cs y:=by
 intro n cs x hlen h;obtain⟨xs,k,_,_,_,hxl,hf⟩:=DataW.trod_struct ht h
 match xs,hxl,cs,hlen with
 | [y0,y1],_,[v0,v1],_=>
  have g0:=hf 0 f0 rfl;have g1:=hf 1 f1 rfl;simp[o0,o1,c0,c1] at g0 g1;obtain⟨s,e0,_,_⟩:=DataW.trod_string u0 g0;obtain⟨n1,e1,_,_⟩:=DataW.trod_int u1 g1;simp at e0 e1;refine⟨⟨s.data.toList,n1⟩,?_⟩;show _=pzC _;rw[e0,e1]
  rfl
end
theorem open_pzs {H:Type} {enc:TypeId×Value→H} {w:World} {base:Nat} {v:Value} {d:DataW H} {p:List MemPlace} (hv:Value.okWide Tryz.prog w .any base 22 v) (h:DataW.Trod enc Tryz.prog w 0 (fun _=>true) true 22 v d p) :
 ∃a len cap l,v=.slice a len cap∧Pzs w a len cap l:=
 open_tab Tryz.underlying22 (show Tryz.prog.cellsOf 99=2 by kernel_rfl) (by decide) IsPz (rd_pz Tryz.underlying99 rfl rfl (by kernel_rfl) (by kernel_rfl) Tryz.underlying9 Tryz.underlying3) hv h
end Go.Proofs.YtpghlmcoajaiiaaGreatDoor
