/- Texts that other texts of this claim lean on, one behind the other. -/
import Derived.Test.YtpghlmcoajaiiaaGreatDoorM2
import Derived.Test.YtpghlmcoajaiiaaGreatDoorM3
import Derived.Test.YtpghlmcoajaiiaaGreatDoorM4
import Derived.Test.YtpghlmcoajaiiaaGreatDoorM1
import Derived.Test.YtpghlmcoajaiiaaGreatDoorM11
import Derived.Test.YtpghlmcoajaiiaaGreatDoorM9
import Derived.Test.YtpghlmcoajaiiaaGreatDoorM8
import Derived.Test.YtpghlmcoajaiiaaGreatDoorM10
import Derived.Lib.ConvBytes
import Derived.Test.YtpghlmcoajaiiaaGreatDoorM5
import Derived.Test.YtpghlmcoajaiiaaGreatDoorM7
import Derived.Test.YtpghlmcoajaiiaaGreatDoorM6
import Derived.Deep.DeepCutAuto
import Derived.Deep.CutBlock
import Derived.Deep.QuietTactic
import Derived.BigQuiet
import Derived.Deep.RegionHeld3
set_option maxHeartbeats 20000000
set_option maxRecDepth 100000
namespace Go.Proofs.YtpghlmcoajaiiaaGreatDoor
open Go.RowKit
theorem getFC_err (rd:Int→Int×Int×List UInt8):∀(n:Nat) (s:List UInt8) (at_:List Int) (left:Int),(getFC rd n s at_ left).2.2≠0→(getFC rd n s at_ left).2.1=[]
 | 0,s,at_,left,_=>by unfold getFC;rfl
 | n+1,s,at_,left,h=>by
  unfold getFC at h ⊢;dsimp only at h ⊢
  split
  ·rfl
  ·rename_i h1
   rw[if_neg h1] at h
   split
   ·rfl
   ·rename_i h2
    rw[if_neg h2] at h
    split
    ·rename_i h3
     rw[if_pos h3] at h;exact absurd rfl h
    ·rename_i h3
     rw[if_neg h3] at h
     split
     ·rfl
     ·rename_i h4
      rw[if_neg h4] at h;exact getFC_err rd n _ _ _ h
theorem getDC_err {d:List Rg} {r first size:Int} (h:(getDC d r first size).2.2≠0):(getDC d r first size).2.1=[]:=by
 unfold getDC getC at h ⊢
 split
 ·rfl
 ·rename_i h1
  rw[if_neg h1] at h;exact getFC_err _ _ _ _ _ h
theorem seeL_snoc (seen l:List Int) (p:Int):seeL seen (l++[p])=match seeL seen l with
 | none=>none
 | some s=>if p∈s then none else some (s++[p]):=by
 induction l generalizing seen with
 | nil=>
  show seeL seen [p]=if p∈seen then none else some (seen++[p])
  unfold seeL
  split<;>rfl
 | cons q r ih=>
  rw[List.cons_append];unfold seeL
  split
  ·rfl
  ·exact ih _
def seeE (seen l:List Int):Int:=if (seeL seen l).isSome then 0 else 11
theorem seeE_snoc (seen l:List Int) (p:Int):seeE seen (l++[p])=if seeE seen l=0∧p∈seen++l then 11 else seeE seen l:=by
 unfold seeE;rw[seeL_snoc];cases h:seeL seen l with
 | none=>simp
 | some s=>
  rw[seeL_app h]
  by_cases hp:p∈seen++l
  ·simp[hp]
  ·simp[hp]
theorem zero_refV (w:World):(zeroValue 142).run Tryz.prog w=.ok (.agg #[.string ⟨#[]⟩,.slice none 0 0]) w:=by kernel_rfl
theorem Turn.refl (w:World) (v:Value):Turn w v v:=.inl rfl
theorem Turn.trans {w w1:World} {v v1 v2:Value} (h:Turn w v v1) (k:Turn w1 v1 v2) (hs:w.heap.size≤w1.heap.size):Turn w v v2:=by
 rcases k with k|k
 ·rcases h with h|h
  ·exact .inl (k.trans h)
  ·exact .inr fun g e=>h g (k ▸ e)
 ·exact .inr fun g e=>Nat.le_trans hs (k g e)
theorem Turn.from {w w1:World} {v v1:Value} (h:Turn w1 v v1) (hs:w.heap.size≤w1.heap.size):Turn w v v1:=(Turn.refl w v).trans h hs
theorem only_next {sb:Nat} {v v1:Value} {w w1 w2:World} (h:Only (RS sb v) w w1) (t:Turn w v v1) (k:Only (RS sb v1) w1 w2):Only (RS sb v) w w2:=
 h.then k (fun i hi=>by
  rcases RS.mem.1 hi with rfl|hi
  ·exact .inl (RS.mem.2 (.inl rfl))
  ·rcases t with t|t
   ·exact .inl (RS.mem.2 (.inr (t ▸ hi)))
   ·exact .inr (t i hi))
def RLeafPost (w:World) (sb:Nat) (a:Option Addr) (len cap:Nat) (d:List Rg) (r:Int) (v:Value) (R:Except Int (List Int×Tv)) (e:Ending) (w':World):Prop:=
 ∃(S:ByteArray) (pa:Option Addr) (pn pc:Nat) (v':Value) (seen':List Int) (E':Int),e=.returned (.agg #[.string S,.slice pa pn pc])∧RLd w' sb a len cap d r v' seen' E'∧Only (RS sb v) w w'∧Turn w v v'∧match R with
  | .ok (s,x)=>E'=0∧seen'=s∧TvOn (fun b=>w.heap.size≤b∧v'.ownBlock≠some b) w' [.string S,.slice pa pn pc] x
  | .error x=>E'=x∧x≠0
theorem rleaf_any {w:World} {sb:Nat} {a:Option Addr} {len cap:Nat} {d:List Rg} {r:Int} {v:Value} {seen:List Int} (h:RLd w sb a len cap d r v seen 0) (hl:seen.length≤1000) (x:Vv) :
 Calls Tryz.prog 102 #[.pointer (some ⟨sb,0,none⟩),.agg #[.string (strOf x.data),.bool x.far,.int .i64 x.size,.int .i64 x.page]] w (RLeafPost w sb a len cap d r v (valL d r seen x)):=by
 obtain⟨vd,vf,vs,vp⟩:=x;obtain⟨w1,hw1⟩:∃w1,(w.alloc (.cells #[.string (strOf vd),.bool vf,.int .i64 vs,.int .i64 vp] 224)).alloc (.cells #[.string ⟨#[]⟩,.slice none 0 0] 142)=w1:=⟨_,rfl⟩
 have hx1:Boxes w1 [(w.heap.size+1,[.string ⟨#[]⟩,.slice none 0 0]),(w.heap.size,[.string (strOf vd),.bool vf,.int .i64 vs,.int .i64 vp])]:=by
  rw[←hw1];exact((Boxes.nil w).alloc #[.string (strOf vd),.bool vf,.int .i64 vs,.int .i64 vp] 224 (b:=w.heap.size) rfl).alloc #[.string ⟨#[]⟩,.slice none 0 0] 142 (b:=w.heap.size+1) (by simp)
 have hb1:Below w.heap.size w w1:=by rw[←hw1];exact Below.al (Below.al (Below.refl _ _))
 have HS1:=Hd (show w1.heap.size=w.heap.size+2 by rw[←hw1];simp);have hd1:=h.below hb1;have hsb:=h.lt;have hz:=zero_refV;have HVB:=Hd (show ∀k,v.ownBlock=some k→k<w.heap.size from fun k hk=>(h.ge hk).2);cases vf with
 | false=>
  have m5c06a7:=trivial;exact q720e2e
 | true=>
  have c0:=hd1.box.cell 0 0 rfl rfl;have c1:=hd1.box.cell 0 1 rfl rfl;have c3:=hd1.box.cell 0 3 rfl rfl;have hlt1:=hd1.lt;have hx0:=hx1.lt 1 rfl;have o2:=hx1.cell 1 2 rfl rfl;have o3:=hx1.cell 1 3 rfl rfl;have v1:=hx1.cell 1 1 rfl rfl;have cA:∀W,Below w1.heap.size w1 W→W.cell? ⟨sb,0,none⟩=some (.slice a len cap):=fun W hW=>(hW.cell (p:=⟨sb,0,none⟩) hlt1).trans c0
  have cB:∀W,Below w1.heap.size w1 W→W.cell? ⟨sb,1,none⟩=some (.int .i64 r):=fun W hW=>(hW.cell (p:=⟨sb,1,none⟩) hlt1).trans c1
  have me798b6:=trivial;exact qe36c20
def RG (B:Nat) (vi vL:Value) (b:Nat):Prop:=B≤b∧vi.ownBlock≠some b∧vL.ownBlock≠some b
structure RM (w wB:World) (sb:Nat) (a:Option Addr) (len cap:Nat) (d:List Rg) (r:Int) (v0 vb:Value) (ob rb n:Nat) (p:Int) (lf:Bool) (vi:Value) (s:List Int) (E:Int) (vL:Value) (LL:List (Cl 4)) (ys:List Rc) (wr:World):Prop where
 box:Boxes wr [(ob,[.int .i64 p,.bool lf,vL]),(rb,[.int .i64 0,.bool false,.slice none 0 0])]
 ld:RLd wr sb a len cap d r vi s E
 row:wr.ownsRow wB.heap.size 145 4 vL LL.length (flatC LL)
 dv:∀g,vL.ownBlock=some g→vi.ownBlock≠some g
 tl:E=0→Tells (RcOn (RG wB.heap.size vi vL) n wr) LL ys
 ol:Only (RS sb v0) w wr
 tu:Turn w v0 vi
 tb:Turn wB vb vi
 ag:AgreeF (fun b=>b≠sb∧b≠ob∧vb.ownBlock≠some b) wB wr
 bv:∀g,vb.ownBlock=some g→g≠ob∧g≠rb∧g<wB.heap.size
 so:sb<w.heap.size
 ro:w.heap.size≤rb
 oo:rb<ob
 on:ob<wB.heap.size
section
variable {w wB wr w':World} {sb:Nat} {a:Option Addr} {len cap:Nat} {d:List Rg} {r:Int} {v0 vb:Value} {ob rb n:Nat} {p:Int} {lf:Bool} {vi:Value} {s:List Int} {E:Int} {vL:Value} {LL:List (Cl 4)} {ys:List Rc}
theorem RM.lt (h:RM w wB sb a len cap d r v0 vb ob rb n p lf vi s E vL LL ys wr):ob<wr.heap.size∧wB.heap.size≤wr.heap.size:=⟨h.box.lt 0 rfl,h.ag.1⟩
theorem RM.lge (h:RM w wB sb a len cap d r v0 vb ob rb n p lf vi s E vL LL ys wr) {g:Nat} (hg:vL.ownBlock=some g):wB.heap.size≤g∧g<wr.heap.size:=World.ownsRow.lt h.row g hg
theorem RM.vne (h:RM w wB sb a len cap d r v0 vb ob rb n p lf vi s E vL LL ys wr) {g:Nat} (hg:vi.ownBlock=some g):g≠ob∧g≠rb∧g<wr.heap.size:=by
 have h2:=(h.ld.ge hg).2;have:=h.on;have:=h.oo
 rcases h.tb with t|t
 ·have:=h.bv g (t ▸ hg);exact⟨this.1,this.2.1,h2⟩
 ·have:=t g hg;exact⟨by omega,by omega,h2⟩
theorem rcMove {F G:Nat→Prop} {n:Nat} {w w':World} {cs:List Value} {y:Rc} (h:RcOn F n w cs y) (ha:AgreeF F w w') (hG:∀b,F b→b<w.heap.size→G b):RcOn G n w' cs y:=
 (h.lt.agree ⟨ha.1,fun b hb hlt=>ha.2 b hb.1 hlt⟩).mono (fun b hb=>hG b hb.1 hb.2)
theorem RM.turn {v':Value} {s':List Int} {E':Int} (h:RM w wB sb a len cap d r v0 vb ob rb n p lf vi s 0 vL LL ys wr) (hd:RLd w' sb a len cap d r v' s' E') (ho:Only (RS sb vi) wr w') (ht:Turn wr vi v'):RM w wB sb a len cap d r v0 vb ob rb n p lf v' s' E' vL LL ys w':=by
 have hlt:=h.lt;have hsb:=h.so;have hro:=h.ro;have hoo:=h.oo;have hon:=h.on;refine⟨h.box.only ho (by
  intro q hq hm
  rcases RS.mem.1 hm with e|e
  ·simp at hq;rcases hq with rfl|rfl<;>simp at e<;>omega
  ·have:=h.vne e;simp at hq;rcases hq with rfl|rfl<;>simp at this),hd,own_only h.row ho (fun k hk hm=>by
  rcases RS.mem.1 hm with e|e
  ·have:=(h.lge hk).1;omega
  ·exact h.dv k hk e),fun g hg e=>?_,fun _=>?_,only_next h.ol h.tu ho,h.tu.trans ht h.ol.size,h.tb.trans ht h.ag.1,⟨Nat.le_trans h.ag.1 ho.size,fun b hb hlt2=>?_⟩,h.bv,h.so,h.ro,h.oo,h.on⟩
 ·rcases ht with t|t
  ·exact h.dv g hg (t ▸ e)
  ·have:=t g e;have:=(h.lge hg).2;omega
 ·refine(h.tl rfl).mono (fun _ _ _ hc=>rcMove hc ⟨ho.size,fun b hb hlt2=>ho.block hlt2 (fun hm=>?_)⟩ (fun b hb hlt2=>⟨hb.1,fun e=>?_,hb.2.2⟩))
  ·rcases RS.mem.1 hm with e|e
   ·have:=hb.1;omega
   ·exact hb.2.1 e
  ·rcases ht with t|t
   ·exact hb.2.1 (t ▸ e)
   ·have:=t b e;omega
 ·refine(ho.block (by have:=h.ag.1;omega) (fun hm=>?_)).trans (h.ag.2 b hb hlt2)
  rcases RS.mem.1 hm with e|e
  ·exact hb.1 e
  ·rcases h.tb with t|t
   ·exact hb.2.2 (t ▸ e)
   ·have:=t b e;omega
theorem info_Cr:RowInfo Tryz.prog 145 4 80:=row_info (by kernel_rfl)
theorem RM.push (h:RM w wB sb a len cap d r v0 vb ob rb n p lf vi s E vL LL ys wr) (hl:LL.length≤1000) {x0 x1 x2 x3:Value} {y:Rc} (hone:∀u∈[x0,x1,x2,x3],u.oneCell'=true) (hy:E=0→RcOn (RG wB.heap.size vi vL) n wr [x0,x1,x2,x3] y) :
 ∃a' c' w' LL',(Builtin.append_ #[25,25] 25 #[vL,.slice (some ⟨wr.heap.size,0,none⟩) 1 1]).run Tryz.prog (wr.alloc (.cells #[x0,x1,x2,x3] 145))=.ok (.slice a' (LL.length+1) c') w' ∧
  w'.cell? ⟨ob,2,none⟩=some vL∧w'.frozen? ⟨ob,2,none⟩=false∧LL'.length=LL.length+1∧RM w wB sb a len cap d r v0 vb ob rb n p lf vi s E (.slice a' (LL.length+1) c') LL' (ys++[y]) (w'.setCell ⟨ob,2,none⟩ (.slice a' (LL.length+1) c')):=by
 have hlt:=h.lt;have hsb:=h.so;have hro:=h.ro;have hoo:=h.oo;have hon:=h.on;obtain⟨i,z,i1,i2,i3,i4,i5⟩:=info_Cr;obtain⟨v',w',hr,ho,hg,hv⟩:=run_append_new (P:=Tryz.prog) wB.heap.size 25 145 i z 4 80 Tryz.underlying25 i1 i2 i3 i4 i5 (by decide) h.row #[x0,x1,x2,x3] rfl (by simpa using hone) (by unfold maxLen;omega) (by omega) hlt.2;obtain⟨a',c',rfl,_⟩:=own_slice ho;have hbx:=h.box.grown hg (by intro q hq e;have:=(h.lge e).1;simp at hq;rcases hq with rfl|rfl<;>simp at this<;>omega);have hvt:Turn wr vL (.slice a' (LL.length+1) c'):=by
  exact qc0a764
 have hge:=own_ge ho;have hag:AgreeF (fun b=>vL.ownBlock≠some b∧b≠ob) wr (w'.setCell ⟨ob,2,none⟩ (.slice a' (LL.length+1) c')):=AgreeF.set ⟨hg.size,fun b hb hlt=>hg.block b hlt (fun e=>hb.1 e.symm)⟩ (.inl fun h=>h.2 rfl);have hoS:Only (ob::vL.ownBlock.toList) wr (w'.setCell ⟨ob,2,none⟩ (.slice a' (LL.length+1) c')):=(Only.of_grown hg (fun k hk=>.inl (by rw[hk];simp))).set _ _ (by simp);have hmS:∀k∈ob::vL.ownBlock.toList,k=ob∨vL.ownBlock=some k:=fun k hk=>by
  cases hvl:vL.ownBlock with
  | none=>rw[hvl] at hk;simp at hk;exact .inl hk
  | some g=>rw[hvl] at hk;simp at hk;rcases hk with rfl|rfl;exact .inl rfl;exact .inr rfl
 obtain⟨cc,hcc⟩:∃cc:Cl 4,cc.1=[x0,x1,x2,x3]:=⟨⟨_,rfl,hone⟩,rfl⟩
 have hfl:flatC (LL++[cc])=flatC LL++[x0,x1,x2,x3]:=by rw[flatC_append,←hcc];exact congrArg (flatC LL++·) (List.append_nil _)
 refine⟨a',c',w',LL++[cc],hr,hbx.cell 0 2 rfl rfl,hbx.frozen 0 2 rfl,by simp,⟨hbx.put 2 _ (by intro q hq;simp at hq;subst hq;simp;omega),h.ld.only hoS (fun k hk=>?_),?_,fun g hg2 e=>?_,fun hE=>?_,h.ol.then hoS (fun k hk=>.inr ?_),h.tu,h.tb,⟨Nat.le_trans h.ag.1 hag.1,fun b hb hlt2=>(hag.2 b ⟨fun e=>by have:=(h.lge e).1;omega,hb.2.1⟩ (by omega)).trans (h.ag.2 b hb hlt2)⟩,h.bv,h.so,h.ro,h.oo,h.on⟩⟩
 ·rcases hmS k hk with rfl|hk
  ·exact⟨by omega,fun e=>(h.vne e).1 rfl⟩
  ·exact⟨by have:=(h.lge hk).1;omega,h.dv k hk⟩
 ·rw[hfl,List.length_append]
  exact own_set ho ⟨ob,2,none⟩ _ (fun e=>by have:=hge _ e;simp at this;omega)
 ·rcases hvt with t|t
  ·exact h.dv g (t ▸ hg2) e
  ·have:=t g hg2;have:=(h.vne e).2.2;omega
 ·have hG:∀b,RG wB.heap.size vi vL b→b<wr.heap.size→RG wB.heap.size vi (.slice a' (LL.length+1) c') b:=fun b hb hlt2=>⟨hb.1,hb.2.1,fun e=>by
   rcases hvt with t|t
   ·exact hb.2.2 (t ▸ e)
   ·have:=t b e;omega⟩
  have hA:AgreeF (RG wB.heap.size vi vL) wr (w'.setCell ⟨ob,2,none⟩ (.slice a' (LL.length+1) c')):=hag.sub (fun b hb=>⟨hb.2.2,by have:=hb.1;omega⟩);exact((h.tl hE).mono (fun _ _ _ hc=>rcMove hc hA hG)).append (Tells.one (by rw[hcc];exact rcMove (hy hE) hA hG))
 ·rcases hmS k hk with rfl|hk
  ·omega
  ·have:=(h.lge hk).1;omega
theorem RM.node {t:Tr} {G:Nat→Prop} (h:RM w wB sb a len cap d r v0 vb ob rb n p lf vi s 0 vL LL (cellsR t) wr) (ha:AgreeF (RG wB.heap.size vi (.slice none 0 0)) wr w') (hG:∀b,RG wB.heap.size vi (.slice none 0 0) b→G b):RNodeOn G (n+1) w' [.int .i64 t.page,.bool t.isLeaf,vL] t:=by
 have ht:=h.tl rfl;have hlen:LL.length=(cellsR t).length:=ht.1;obtain⟨a',c',rfl,hr⟩:=Raw.of_own h.row rfl;have hT:=(hr.tab ht)
 have hfa:Fa (RG wB.heap.size vi (.slice none 0 0)) a' LL.length:=by
  rcases Nat.eq_zero_or_pos LL.length with h0|h0
  ·exact .inl h0
  ·refine .inr fun b off e=>?_
   subst e;exact⟨(h.lge rfl).1,h.dv b rfl,by simp[Value.ownBlock]⟩
 have hT2:=TabR.agree hT hfa ha (R':=RcOn (RG wB.heap.size vi (.slice none 0 0)) n w') (fun cs y _ hc=>rcMove hc (ha.sub fun b hb=>⟨hb.1,hb.2.1,by simp[Value.ownBlock]⟩) (fun b hb _=>⟨hb.1,hb.2.1,by simp[Value.ownBlock]⟩));rw[hlen,cellsR_len] at hT2 hfa ⊢;exact RNodeOn.mk (TabR.mono hT2 (fun _ _ hc=>hc.mono hG)) (hfa.mono hG)
end
open Go.RowKit
open Go.RowKit
theorem str_bytes {P:Program} (w:World) {src dst e:TypeId} (hs:P.underlying src=some .string) (hd:P.underlying dst=some (.slice e)) (he:P.underlying e=some (.int .u8)) (l:List UInt8) (hl:l.length≤140737488351232) :
 ∃c w',(convert src dst (.string (strOf l))).run P w=.ok (.slice (some ⟨w.heap.size,0,none⟩) l.length c) w'∧Bs w' (some ⟨w.heap.size,0,none⟩) l.length c l∧Below w.heap.size w w':=by
 have h:=Lib.run_convert_string_bytes (P:=P) w src dst e (strOf l) hs hd he;rw[strOf_size] at h;refine⟨_,_,h,⟨by rw[toI_length],grownCap_ge w _ 0 e,grownCap_le_maxLen w _ 0 e (by unfold maxLen;omega),(fun h=>by cases h),.inr ⟨_,0,rfl,by rw[Lib.bytesWorld_size];omega,fun i hi=>?_⟩⟩,?_⟩
 ·have:=Lib.bytesWorld_cell w e (strOf l) i (by rw[strOf_size];exact hi)
  rw[Nat.zero_add,this,strOf_list,toI_get,List.getD_eq_getElem?_getD]
 ·have e1:(Lib.bytesWorld w e (strOf l)).os=w.os∧(Lib.bytesWorld w e (strOf l)).tape=w.tape∧(Lib.bytesWorld w e (strOf l)).output=w.output:=by
   unfold Lib.bytesWorld World.freeze
   split<;>exact⟨rfl,rfl,rfl⟩
  exact⟨e1.1,e1.2.1,e1.2.2,by rw[Lib.bytesWorld_size];omega,fun k hk=>Lib.bytesWorld_at_old w e _ k hk⟩
open Go.RowKit
theorem u8_eq (a b:UInt8):((a.toNat:Int) == (b.toNat:Int))=(a == b):=by
 by_cases h:a=b
 ·subst h;simp
 ·have:a.toNat≠b.toNat:=fun e=>h (UInt8.toNat_inj.1 e)
  rw[beq_eq_false_iff_ne.2 h,beq_eq_false_iff_ne.2 (show(a.toNat:Int)≠(b.toNat:Int) by omega)]
theorem str_add {P:Program} (a b:List UInt8) (h:a.length+b.length≤9223372036854775807) (W:World):(Op.stringOp .add (strOf a) (strOf b)).run P W=.ok (.string (strOf (a++b))) W:=by
 rw[run_string_add_sum W _ _ (by rw[strOf_size,strOf_size];exact h),strOf_append]
open Go.RowKit
def fineB (v:Vv):Bool:=
 if v.far then v.data == [] && (decide (16<v.size) && (decide (v.size≤400) && pageB v.page))
 else decide (v.data.length≤16) && (v.size == 0 && v.page == 0)
theorem mayL_fine (e:En):mayL e=(keyB e.key && fineB e.v):=by
 unfold mayL fineB;split<;>rfl
theorem rfine_any (v:Vv) (w:World) :
 Calls Tryz.prog 183 #[vv v] w fun e w'=>e=.returned (.bool (fineB v))∧Below w.heap.size w w':=by
 obtain⟨d,f,s,p⟩:=v;have hst:=strOf_toList;have hsz:=strOf_size d;unfold vv;cases f
 all_goals
  go_enter Tryz.func183,Tryz.ntmps183
  go_wp2
  all_goals
   go_ret;exact ret_b (by simp[fineB,pageB, *]<;>omega) (below_one w _)
theorem append_strs {w:World} {base:Nat} {v:Value} {n:Nat} {l:List (List UInt8)} (h:w.ownsRow base 9 1 v n (l.map sv)) (c:List UInt8) (hn:n≤65536) (hbase:base≤w.heap.size) :
 ∃v' w',(Builtin.append_ #[46,46] 46 #[v,.slice (some ⟨w.heap.size,0,none⟩) 1 1]).run Tryz.prog (w.alloc (.cells #[.string (strOf c)] 9))=.ok v' w'∧w'.ownsRow base 9 1 v' (n+1) ((l++[c]).map sv)∧w.grownBy w' v.ownBlock:=by
 obtain⟨i0,hi,hz0,hz1,hz2⟩:=info_parts info_str;obtain⟨v',w',hr,ho,hg,_⟩:=run_append_new (P:=Tryz.prog) base 46 9 i0 _ 1 16 Tryz.underlying46 hi hz0 hz1 hz2 rfl (by decide) h #[.string (strOf c)] rfl (fun u hu=>by simp at hu;subst hu;rfl) (by unfold maxLen;omega) (by omega) hbase;exact⟨v',w',hr,by rw[List.map_append];exact ho,hg⟩
theorem cellsN_snoc1 (leaf:Bool) (l:List En) (k:Nat) (e:En) (h:l[k]? = some e):cellsN leaf (l.take (k+1))=cellsN leaf (l.take k)++[cellN leaf e]:=cellsN_snoc leaf l k e h
theorem rcells_any (leaf:Bool) (a:Option Addr) (len cap:Nat) (l:List En) (w:World) (h:NEnts w a len cap l) (hlen:len≤65536) (hd:SmE l) :
 Calls Tryz.prog 170 #[.agg #[.bool leaf,.slice a len cap]] w (OwnStrs w (cellsN leaf l)):=by
 have hB:=below_one w (.cells #[.bool leaf,.slice a len cap] 221);have BX:=(Boxes.nil w).alloc #[.bool leaf,.slice a len cap] 221 rfl;have h1:=h.below (Nat.le_refl _) hB;have hll:=Hd h1.len;have HI:=Hd hd;clear hd h1;have HB:=Hd hB;have HX:=Hd BX;clear hB BX;go_enter Tryz.func170,Tryz.ntmps170;go_wp2_with fail
 go_loopw [3,4] (fun o i wr=>∃(k:Nat) (v:Value),k≤len∧i=.int .i64 k∧v=o∧wr.ownsRow (w.heap.size+1) 9 1 v k ((cellsN leaf (l.take k)).map sv)∧Boxes wr [(w.heap.size,[.bool leaf,.slice a len cap])]∧Below w.heap.size w wr) (fun _ i _=>len-(intOf i).toNat)
 case atStart=>exact⟨0,_,Nat.zero_le _,rfl,rfl,World.ownsRow_nil _ _ _ _,HX.out,HB.out⟩
 case round=>
  obtain⟨k,v,hk,rfl,rfl,hown,BX,hbw⟩:=hrel;have d0:=BX.cell 0 0 rfl rfl;have d1:=BX.cell 0 1 rfl rfl
  by_cases hlt:k<len
  ·obtain⟨b,off,e,rfl,hbb,hy,e0,e1,e2,e3,e4⟩:=(h.below (Nat.le_refl _) hbw).at hlt
   obtain⟨hl1,hl2⟩:=HI.out e (List.mem_of_getElem? hy);have hnb:v.ownBlock≠some w.heap.size:=fun e9=>by have:=own_ge hown _ e9;omega
   have hwl:=BX.lt 0 rfl;have hov:∀j,v.ownBlock=some j→w.heap.size≤j:=fun j hj=>by have:=own_ge hown j hj;omega
   have hb6:=below_one wr (.cells #[.string (strOf e.v.data),.bool e.v.far,.int .i64 e.v.size,.int .i64 e.v.page] 224);have B6:=BX.alloc #[.string (strOf e.v.data),.bool e.v.far,.int .i64 e.v.size,.int .i64 e.v.page] 224 rfl;have hq1:=(hb6.cell (p:=⟨b,off+k*5,none⟩) hbb).trans e0;have T1:=fun W=>refText_any e.key W (by omega)
   have d2:=B6.cell 1 1 rfl rfl;have d3:=B6.cell 1 0 rfl rfl;have hbl:=Hd hbw;have hbx:=B6.lt 0 rfl;have HBX:=Hd BX;clear BX;cases leaf with
   | false=>
    have hw:=wrap_u64N e.v.page;have N2:∀W,Calls Tryz.prog 67 #[.int .u64 (u64N e.v.page:Int),.int .i64 2] W (RetStr W (two e.v.page)):=fun W=>refNum_ok (u64N e.v.page) 2 W (u64N_lt _) (by decide) (by decide)
    have ha:∀W,(Op.stringOp .add (strOf (textF e.key)) (strOf (two e.v.page))).run Tryz.prog W=.ok (.string (strOf (cellN false e))) W:=fun W=>str_add (P:=Tryz.prog) _ _ (by rw[textF_length,two_length];omega) W
    go_wp2_with fail;refine(T1 _).mono ?_;rintro en w7 ⟨rfl,hb7⟩;have B7:=B6.step hb7;have d4:=B7.cell 1 0 rfl rfl;have d5:=B7.cell 0 3 rfl rfl;have hE:=below_then hb6 hb7;clear hb7 d2 d3 d0 d1 hq1 e0 e1 e2 e3 e4;go_wp2_with fail;refine(N2 _).mono ?_;rintro en w8 ⟨rfl,hb8⟩;have hE:=below_then hE hb8;clear hb8 d4 d5 B6 B7;have BX:=HBX.out;have hbw:=hbl.out;have hx:=append_strs (own_below hown (Nat.le_refl _) hE) (cellN false e) (by omega) (Nat.le_trans hwl hE.size);obtain⟨v9,wz,hr9,ho9,hg9⟩:=hx;have hbe:=below_then hbw hE;have hz9:=hbe.grown hg9 hbe.size hov;have B9:=(BX.step hE).grown hg9 (fun p hp=>by simp at hp;subst hp;exact hnb);rw[←cellsN_snoc1 false l k e hy] at ho9;exact q426cc0
   | true=>
    cases hf:e.v.far with
    | false=>
    have ha1:∀W,(Op.stringOp .add ⟨#[0]⟩ (strOf e.v.data)).run Tryz.prog W=.ok (.string (strOf ([0]++e.v.data))) W:=fun W=>str_add (P:=Tryz.prog) [0] e.v.data (by simp;omega) W
    have ha:∀W,(Op.stringOp .add (strOf (textF e.key)) (strOf ([0]++e.v.data))).run Tryz.prog W=.ok (.string (strOf (cellN true e))) W:=fun W=>by
     have:=str_add (P:=Tryz.prog) (textF e.key) ([0]++e.v.data) (by rw[textF_length];simp;omega) W
     rwa [show textF e.key++([0]++e.v.data)=cellN true e from by simp[cellN,encV,encL,hf]] at this
    generalize hs3:[0]++e.v.data=s3 at *;clear hs3;simp only[hf] at B6 hb6 hq1 e2;go_wp2_with fail;refine(T1 _).mono ?_;rintro en w7 ⟨rfl,hb7⟩;have B7:=B6.step hb7;have d4:=B7.cell 1 0 rfl rfl;have d5:=B7.cell 0 0 rfl rfl;have d6:=B7.cell 0 1 rfl rfl;have hE:=below_then hb6 hb7;clear hb7 d2 d3 d0 d1 hq1 e0 e1 e2 e3 e4 B6 B7;exact qe30b5b
    | true=>
    have hw:=wrap_u64N e.v.page;have hw2:=wrap_u64N e.v.size;have N1:∀W,Calls Tryz.prog 67 #[.int .u64 (u64N e.v.size:Int),.int .i64 2] W (RetStr W (two e.v.size)):=fun W=>refNum_ok (u64N e.v.size) 2 W (u64N_lt _) (by decide) (by decide)
    have N2:∀W,Calls Tryz.prog 67 #[.int .u64 (u64N e.v.page:Int),.int .i64 2] W (RetStr W (two e.v.page)):=fun W=>refNum_ok (u64N e.v.page) 2 W (u64N_lt _) (by decide) (by decide)
    have ha1:∀W,(Op.stringOp .add ⟨#[1]⟩ (strOf (two e.v.size))).run Tryz.prog W=.ok (.string (strOf ([1]++two e.v.size))) W:=fun W=>str_add (P:=Tryz.prog) [1] (two e.v.size) (by simp[two_length]) W
    have ha2:∀W,(Op.stringOp .add (strOf ([1]++two e.v.size)) (strOf (two e.v.page))).run Tryz.prog W=.ok (.string (strOf ([1]++two e.v.size++two e.v.page))) W:=fun W=>str_add (P:=Tryz.prog) ([1]++two e.v.size) (two e.v.page) (by simp[two_length]) W
    have ha:∀W,(Op.stringOp .add (strOf (textF e.key)) (strOf ([1]++two e.v.size++two e.v.page))).run Tryz.prog W=.ok (.string (strOf (cellN true e))) W:=fun W=>by
     have:=str_add (P:=Tryz.prog) (textF e.key) ([1]++two e.v.size++two e.v.page) (by rw[textF_length];simp[two_length];omega) W
     rwa [show textF e.key++([1]++two e.v.size++two e.v.page)=cellN true e from by simp[cellN,encV,encL,hf]] at this
    simp only[hf] at B6 hb6 hq1 e2;generalize [1]++two e.v.size++two e.v.page=s3 at *;generalize [1]++two e.v.size=s2 at *;generalize hs1:two e.v.size=s1 at *;generalize hsp:two e.v.page=sp at *;clear hs1 hsp;go_wp2_with fail;refine(T1 _).mono ?_;rintro en w7 ⟨rfl,hb7⟩;have B7:=B6.step hb7;have d4:=B7.cell 1 0 rfl rfl;have d6:=B7.cell 0 1 rfl rfl;have hE:=below_then hb6 hb7;clear hb7 d2 d3 d0 d1 hq1 e0 e1 e2 e3 e4 B6;have c2:∀W,Below w7.heap.size w7 W→W.cell? ⟨wr.heap.size,2,none⟩=some (.int .i64 e.v.size):=fun W hW=>(B7.step hW).cell 0 2 rfl rfl
    have c3:∀W,Below w7.heap.size w7 W→W.cell? ⟨wr.heap.size,3,none⟩=some (.int .i64 e.v.page):=fun W hW=>(B7.step hW).cell 0 3 rfl rfl
    have hC:Below w7.heap.size w7 w7.drew:=(Below.refl _ _).drew;go_wp2_with fail
    go_region_held3 (fun W=>Below w7.heap.size w7 W) (first|with_reducible assumption) (first|(go_at_call 67;(with_reducible refine(N1 _).mono ?_);rintro en w8 ⟨rfl,hb8⟩;have hC8:=hC.trans (hb8.mono hC.size))|(go_at_call 67;(with_reducible refine(N2 _).mono ?_);rintro en w9 ⟨rfl,hb9⟩;have hC9:=hC8.trans (hb9.mono hC8.size)))
    have hE:=below_then hE hC9;clear hC hC8 hC9 c2 c3 d4 d6 B7;exact qe30b5b
  ·obtain rfl:k=len:=by omega
   go_wp2_with fail;go_ret;rw[List.take_of_length_le (by rw[hll.out];exact Nat.le_refl _)] at hown;exact⟨v,rfl,by rw[cellsN_length,hll.out];exact own_baseC hown (by omega),hbw⟩
open Go.RowKit
def keyOkN (leaf:Bool) (i:Nat) (k:List UInt8):Bool:=if leaf then keyB k else firstB i k
def valOkN (leaf:Bool) (v:Vv):Bool:=if leaf then fineB v else pageB v.page && v == ⟨[],false,0,v.page⟩
theorem mayN_parts (leaf:Bool) (i:Nat) (e:En):mayN leaf i e=(keyOkN leaf i e.key && valOkN leaf e.v):=by
 cases leaf
 ·rfl
 ·exact mayL_fine e
theorem vneq_page (v:Vv) (w:World) :
 (binOp .neq 224 (.agg #[.string (strOf v.data),.bool v.far,.int .i64 v.size,.int .i64 v.page]) (.agg #[.string ⟨#[]⟩,.bool false,.int .i64 0,.int .i64 v.page])).run Tryz.prog w=.ok (.bool (v != ⟨[],false,0,v.page⟩)) w:=by
 obtain⟨a,b,c,d⟩:=v;have hn:(ByteArray.mk #[]).toList=[]:=strOf_toList []
 by_cases h1:a=[]<;>by_cases h2:b=false<;>by_cases h3:c=0<;>simp[go_sem,strOf_toList,h1,h2,h3,bne,hn]
theorem rcheckN_any (leaf:Bool) (a:Option Addr) (len cap:Nat) (l:List En) (w:World) (h:NEnts w a len cap l) (hlen:len≤65536) (hd:SmE l) :
 Calls Tryz.prog 148 #[.agg #[.bool leaf,.slice a len cap]] w fun e w'=>e=.returned (.bool (nodeB leaf l))∧Below w.heap.size w w':=by
 have hB:=below_one w (.cells #[.bool leaf,.slice a len cap] 221);have BX:=(Boxes.nil w).alloc #[.bool leaf,.slice a len cap] 221 rfl;have h1:=h.below (Nat.le_refl _) hB;have hll:=Hd h1.len;have HI:=Hd hd;clear hd h1;have HB:=Hd hB;have HX:=Hd BX;clear hB BX;go_enter Tryz.func148,Tryz.ntmps148;go_wp2_with fail
 go_loopw [3] (fun i wr=>∃(k:Nat),k≤len∧i=.int .i64 k∧upN leaf l k=true∧Boxes wr [(w.heap.size,[.bool leaf,.slice a len cap])]∧Below w.heap.size w wr) (fun i _=>len-(intOf i).toNat)
 case atStart=>exact⟨0,Nat.zero_le _,rfl,rfl,HX.out,HB.out⟩
 case round=>
  obtain⟨k,hk,rfl,hup,BX,hbw⟩:=hrel;have d0:=BX.cell 0 0 rfl rfl;have d1:=BX.cell 0 1 rfl rfl
  by_cases hlt:k<len
  ·obtain⟨b,off,e,rfl,hbb,hy,e0,e1,e2,e3,e4⟩:=(h.below (Nat.le_refl _) hbw).at hlt
   obtain⟨hl1,hl2⟩:=HI.out e (List.mem_of_getElem? hy);have hb6:=below_one wr (.cells #[.string (strOf e.v.data),.bool e.v.far,.int .i64 e.v.size,.int .i64 e.v.page] 224);have B6:=BX.alloc #[.string (strOf e.v.data),.bool e.v.far,.int .i64 e.v.size,.int .i64 e.v.page] 224 rfl;have hbw6:=below_then hbw hb6;have d2:=B6.cell 1 1 rfl rfl;have d3:=B6.cell 1 0 rfl rfl;have hgd:l[k]?.getD ⟨[],Vv.zero⟩=e:=by rw[hy];rfl
   have hst:stepN leaf l k=((keyOkN leaf k e.key && valOkN leaf e.v) && !(decide (0<k) && kle e.key (l[k-1]?.getD ⟨[],Vv.zero⟩).key)):=by rw[stepN,hgd,mayN_parts]
   have hus:upN leaf l (k+1)=stepN leaf l k:=by rw[upN_succ,hup,Bool.true_and]
   have hns:stepN leaf l k=false→nodeB leaf l=false:=nodeB_step (by rw[hll.out];exact hlt);have HST:=Hd hst;have HUS:=Hd hus;have HNS:=Hd hns;have F:∀W,Calls Tryz.prog 183 #[.agg #[.string (strOf e.v.data),.bool e.v.far,.int .i64 e.v.size,.int .i64 e.v.page]] W fun en w'=>en=.returned (.bool (fineB e.v))∧Below W.heap.size W w':=fun W=>rfine_any e.v W
   have hss:=strOf_toList;have hsz:=strOf_size e.key;clear hst hus hns hgd;cases leaf with
   | true=>
    by_cases hk0:k=0
    ·subst hk0
     simp only[Nat.zero_mul,Nat.add_zero] at e0 e1 e2 e3 e4
     by_cases hkn:e.key=[]
     ·have hkb:keyB e.key=false:=by rw[hkn];rfl
      have HF:Hid (nodeB true l=false):=Hd (HNS.out (by rw[HST.out];simp[keyOkN,hkb]));simp only[hkn] at e0 hsz;exact q0ddb2b
     ·have hkn2:(e.key == [])=false:=by simpa using hkn
      by_cases hk16:16<e.key.length
      ·have q16:decide ((16:Int)<(e.key.length:Int))=true:=by simp;omega
       exact q15d91b
      ·have q16:decide ((16:Int)<(e.key.length:Int))=false:=by simp;omega
       have hkb:keyB e.key=true:=by simp[keyB,hkn];omega
       cases hfn:fineB e.v with
       | false=>
        rw[hfn] at F;have HF:Hid (nodeB true l=false):=Hd (HNS.out (by rw[HST.out];simp[valOkN,hfn]));exact qbe6c73
       | true=>
        rw[hfn] at F;have HU:Hid (upN true l (0+1)=true):=Hd (by rw[HUS.out,HST.out];simp[hkb,keyOkN,valOkN,hfn]);have m930f70:=trivial;exact q37c2ba
    ·obtain⟨p,hp1,hp2⟩:∃p,p+1=k∧p<len:=⟨k-1,by omega,by omega⟩
     have m56b7d0:=trivial;exact q9be21f
   | false=>
    by_cases hk0:k=0
    ·subst hk0
     simp only[Nat.zero_mul,Nat.add_zero] at e0 e1 e2 e3 e4
     by_cases hkn:e.key=[]
     ·have hfb:firstB 0 e.key=true:=by rw[hkn];rfl
      simp only[hkn] at e0 hsz
      by_cases hp1:e.v.page<2
      ·have q1:decide (e.v.page<2)=true:=by simpa using hp1
       exact q4419a1
      ·have q1:decide (e.v.page<2)=false:=by simpa using hp1
       by_cases hp2:999<e.v.page
       ·have q2:decide (999<e.v.page)=true:=by simpa using hp2
        exact q4419a1
       ·have q2:decide (999<e.v.page)=false:=by simpa using hp2
        have hpb:pageB e.v.page=true:=by simp[pageB];omega
        have hv:=fun W=>vneq_page e.v W
        have hvq:(e.v == ⟨[],false,0,e.v.page⟩) = !(e.v != ⟨[],false,0,e.v.page⟩):=by simp[bne]
        generalize (e.v != ⟨[],false,0,e.v.page⟩)=vb at *;cases vb with
        | true=>
         have HF:Hid (nodeB false l=false):=Hd (HNS.out (by rw[HST.out];simp[valOkN,hvq]));exact qbe6c73
        | false=>
         have HU:Hid (upN false l (0+1)=true):=Hd (by rw[HUS.out,HST.out];simp[hfb,keyOkN,valOkN,hpb,hvq]);have mecec5f:=trivial;exact q37c2ba
     ·have hkn2:(e.key == [])=false:=by simpa using hkn
      have hfb:firstB 0 e.key=false:=hkn2;have HF:Hid (nodeB false l=false):=Hd (HNS.out (by rw[HST.out];simp[keyOkN,hfb]));exact q0ddb2b
    ·obtain⟨p,hp1,hp2⟩:∃p,p+1=k∧p<len:=⟨k-1,by omega,by omega⟩
     have m0d8545:=trivial;exact q9be21f
  ·obtain rfl:k=len:=by omega
   have hup2:upN leaf l l.length=true:=by rw[hll.out];exact hup
   have hsm:=HI.out;have hr:=h.below (Nat.le_refl _) hbw;have hlens:=cellsN_lens leaf 1000000 l (fun e he=>(hsm e he).2);rw[hll.out] at hlens;have CE:=rcells_any leaf a k cap l wr hr hlen hsm;have CS:∀W a2 n2 c2,n2=(cellsN leaf l).length→Strs W a2 n2 c2 (cellsN leaf l)→Calls Tryz.prog 184 #[.slice a2 n2 c2] W fun e w'=>e=.returned (.int .i64 ((k+lens (cellsN leaf l):Nat):Int))∧W=w':=fun W a2 n2 c2 h1 h2=>by
    have hk2:n2=k:=by rw[h1,cellsN_length,hll.out]
    subst hk2;exact rsize_any a2 n2 c2 (cellsN leaf l) W h2 (by omega)
   have hN:nodeB leaf l=(decide (leastN leaf≤k) && decide (k+lens (cellsN leaf l)≤122)):=by rw[nodeB,hup2,hll.out];rfl
   have HN:=Hd hN;have HCS:=Hd CS;have HBX:=Hd BX;have hcl:=cellsN_length leaf l;rw[hll.out] at hcl;have HCL:=Hd hcl;generalize hls:lens (cellsN leaf l)=ls at *;clear hls hN hup hup2 hsm hlens hr CS BX hcl;go_wp2_with fail;refine CE.mono ?_;rintro e w7 ⟨v7,rfl,ho7,hb7⟩;obtain⟨a7,c7,rfl,hs7⟩:=Strs.of_own ho7;have hb8:=below_then hbw hb7;have B7:=HBX.out.step hb7;have d4:=B7.cell 0 0 rfl rfl;have d5:=B7.cell 0 1 rfl rfl;clear d0 d1 CE hb7 ho7 B7;go_wp2_with fail;refine(HCS.out _ _ _ _ rfl hs7).mono ?_;rintro e w9 ⟨rfl,rfl⟩;clear hs7
   by_cases h122:k+ls≤122
   ·have q1:decide (((k+ls:Nat):Int)≤122)=true:=by simp;omega
    have q2:decide ((k:Int)+(ls:Int)≤122)=true:=by simp;omega
    have q3:(k:Int)+(ls:Int)≤122:=by omega
    have hT:decide (k+ls≤122)=true:=by simpa using h122
    cases leaf with
    | false=>
     by_cases h1:1<k
     ·have r1:decide ((1:Int)<(k:Int))=true:=by simp;omega
      have HF:Hid (nodeB false l=true):=Hd (by rw[HN.out,hT];simp[leastN];omega);exact q432908
     ·have r1:decide ((1:Int)<(k:Int))=false:=by simp;omega
      have HF:Hid (nodeB false l=false):=Hd (by rw[HN.out,hT];simp[leastN];omega);exact q432908
    | true=>
     by_cases h1:1<k
     ·have r1:decide ((1:Int)<(k:Int))=true:=by simp;omega
      have HF:Hid (nodeB true l=true):=Hd (by rw[HN.out,hT];simp[leastN];omega);exact q432908
     ·have r1:decide ((1:Int)<(k:Int))=false:=by simp;omega
      have HF:Hid (nodeB true l=((k:Int) == 1)):=Hd (by
       rw[HN.out,hT,Bool.and_true]
       by_cases h2:k=1
       ·subst h2;rfl
       ·have:k=0:=by omega
        subst this;rfl)
      exact q432908
   ·have q1:decide (((k+ls:Nat):Int)≤122)=false:=by simp;omega
    have q2:decide ((k:Int)+(ls:Int)≤122)=false:=by simp;omega
    have hT:decide (k+ls≤122)=false:=by simpa using h122
    have HF:Hid (nodeB leaf l=false):=Hd (by rw[HN.out,hT,Bool.and_false]);exact q432908
open Go.RowKit
def OneOf (o:Option En) (x:En) (is:Bool):Prop:=match o with|some y=>is=true∧x=y|none=>is=false
def OnePost (w:World) (o:Option En) (e:Ending) (w':World):Prop:=∃(x:En) (is:Bool),e=.returned (.tuple #[ev x,.bool is])∧OneOf o x is∧Below w.heap.size w w'
theorem Rt.new {w:World} (l:List UInt8):Rt (w.alloc (.cells #[.string (strOf l),.int .i64 0] 157)) w.heap.size ⟨l,0⟩:=World.alloc_heap_new w _
theorem Rt.boxed {w w':World} {t b:Nat} {s:TSt} (h:Rt w t s) (hg:w.grownBy w' (some b)) (hne:t≠b):Rt w' t s:=h.grown hg (fun e=>hne (by cases e;rfl))
theorem box_five {w:World} {b:Nat} {x0 x1 x2 x3 x4:Value} {B:Nat} {w0:World} (h:Boxes w [(b,[x0,x1,x2,x3,x4])]) (hb:Below B w0 w) (hB:B≤b) (y0 y1 y2 y3 y4:Value) :
 ∃w',w'=((((w.setCell ⟨b,0,none⟩ y0).setCell ⟨b,1,none⟩ y1).setCell ⟨b,2,none⟩ y2).setCell ⟨b,3,none⟩ y3).setCell ⟨b,4,none⟩ y4∧Boxes w' [(b,[y0,y1,y2,y3,y4])]∧Below B w0 w':=
 ⟨_,rfl,(((((h.put 0 y0 (by simp)).put 1 y1 (by simp)).put 2 y2 (by simp)).put 3 y3 (by simp)).put 4 y4 (by simp)),((((hb.setCell hB _).setCell hB _).setCell hB _).setCell hB _).setCell hB _⟩
theorem one_branch (c:List UInt8) (w:World) (hl:c.length≤1000000) :
 Calls Tryz.prog 147 #[.bool false,.string (strOf c)] w (OnePost w (decE false c)):=by
 have mc7d50c:=trivial;exact q38a107
theorem tDone_rest (s:TSt):tDone (tRest s).2=(tRest s).2.e:=by
 unfold tRest takeF tDone
 by_cases h:s.e=0
 ·simp[h]
 ·simp[h]
theorem one_far (c:List UInt8) (w:World) (hl:c.length≤1000000) (h1:(tNum (tText ⟨c,0⟩).2 1).1=1) :
 Calls Tryz.prog 147 #[.bool true,.string (strOf c)] w (OnePost w (decE true c)):=by
 have me8622b:=trivial;exact q38a107
theorem one_near (c:List UInt8) (w:World) (hl:c.length≤1000000) (h1:(tNum (tText ⟨c,0⟩).2 1).1≠1) :
 Calls Tryz.prog 147 #[.bool true,.string (strOf c)] w (OnePost w (decE true c)):=by
 have mced687:=trivial;exact q38a107
theorem one_any (leaf:Bool) (c:List UInt8) (w:World) (hl:c.length≤1000000) :
 Calls Tryz.prog 147 #[.bool leaf,.string (strOf c)] w (OnePost w (decE leaf c)):=by
 cases leaf
 ·exact one_branch c w hl
 ·by_cases h1:(tNum (tText ⟨c,0⟩).2 1).1=1
  ·exact one_far c w hl h1
  ·exact one_near c w hl h1
open Go.RowKit
def OwnRe (w:World) (base:Nat) (v:Value) (l:List En):Prop:=w.ownsRow base 226 5 v l.length (l.flatMap ecells)
theorem OwnRe.nil (w:World) (base:Nat):OwnRe w base (.slice none 0 0) []:=World.ownsRow_nil _ _ _ _
theorem OwnRe.below {w w':World} {base:Nat} {v:Value} {l:List En} {B:Nat} (h:OwnRe w base v l) (hB:w.heap.size≤B) (hb:Below B w w'):OwnRe w' base v l:=own_below h hB hb
theorem OwnRe.ents {w:World} {base:Nat} {v:Value} {l:List En} (h:OwnRe w base v l):∃a cap,v=.slice a l.length cap∧NEnts w a l.length cap l:=
 TabR.of_own ecells (fun _=>rfl) (fun _=>rfl) h
theorem info_re:(Tryz.prog.info? 226).map (fun i=>(i.zero,i.size,i.bytes))=some (some (.agg #[.string ⟨#[]⟩,.string ⟨#[]⟩,.bool false,.int .i64 0,.int .i64 0]),5,56):=by kernel_rfl
theorem append_re {w:World} {base:Nat} {v:Value} {l:List En} (h:OwnRe w base v l) (e:En) (hl:l.length≤65536) (hbase:base≤w.heap.size) :
 ∃v' w',(Builtin.append_ #[219,219] 219 #[v,.slice (some ⟨w.heap.size,0,none⟩) 1 1]).run Tryz.prog (w.alloc (.cells #[.string (strOf e.key),.string (strOf e.v.data),.bool e.v.far,.int .i64 e.v.size,.int .i64 e.v.page] 226))=.ok v' w'∧OwnRe w' base v' (l++[e])∧w.grownBy w' v.ownBlock:=by
 obtain⟨i0,hi,hz0,hz1,hz2⟩:=info_parts info_re;obtain⟨v',w',hr,ho,hg,_⟩:=run_append_new (P:=Tryz.prog) base 219 226 i0 _ 5 56 Tryz.underlying219 hi hz0 hz1 hz2 rfl (by decide) h #[.string (strOf e.key),.string (strOf e.v.data),.bool e.v.far,.int .i64 e.v.size,.int .i64 e.v.page] rfl (fun u hu=>by simp at hu;rcases hu with rfl|rfl|rfl|rfl|rfl<;>rfl) (by unfold maxLen;omega) (by omega) hbase;refine⟨v',w',hr,?_,hg⟩;unfold OwnRe;rw[List.flatMap_append,List.length_append];simpa[ecells,vcells] using ho
def RGetNPost (w:World) (leaf:Bool) (l:List En) (er:Int) (e:Ending) (w':World):Prop:=
 ∃v,e=.returned (.tuple #[.agg #[.bool leaf,v],.int .i64 er])∧OwnRe w' w.heap.size v l∧Below w.heap.size w w'
theorem rgetpost_none {w w':World} {e:Ending} {er:Int} (he:e=.returned (.tuple #[.agg #[.bool false,.slice none 0 0],.int .i64 er])) (hb:Below w.heap.size w w'):RGetNPost w false [] er e w':=⟨_,he,OwnRe.nil _ _,hb⟩
theorem rnget_err (b:List UInt8) (w:World) (hl:b.length≤140737488351232) (hE:unpE b≠0) :
 Calls Tryz.prog 101 #[.string (strOf b)] w (RGetNPost w false [] (unpE b)):=by
 have hB:=below_one w (.cells #[.bool false,.slice none 0 0] 221);have BX:=(Boxes.nil w).alloc #[.bool false,.slice none 0 0] 221 rfl;have hun:=runpack_any b (w.alloc (.cells #[.bool false,.slice none 0 0] 221)) hl;have hne:((unpE b:Int) != 0)=true:=by simpa using hE
 have hne2:((unpE b:Int) == 0)=false:=by simpa using hE
 generalize unpE b=er at *;generalize unpK b=k at *;generalize unpL b=l at *;clear hE;go_enter Tryz.func101,Tryz.ntmps101;go_wp2_with fail;refine hun.mono ?_;rintro e w1 ⟨v1,rfl,_,hb1⟩;have BX:=BX.step hb1;have g0:=BX.cell 0 0 rfl rfl;have g1:=BX.cell 0 1 rfl rfl;have f0:=BX.frozen 0 0 rfl;have f1:=BX.frozen 0 1 rfl;go_wp2_with fail;refine bodyPost_ret (v:=.tuple #[.agg #[.bool false,.slice none 0 0],.int .i64 er]) (by simp[results,Tryz.results101,go_sem,g0,g1]) rfl (rgetpost_none rfl ?_);exact(((below_then hB hb1).setCell (Nat.le_refl _) _).setCell (Nat.le_refl _) _)
def OneBox (wr:World) (o:Option En) (p q:Value) (wx:World):Prop:=∃(pe:Nat) (x:En) (is:Bool),p=.pointer (some ⟨pe,0,none⟩)∧q=.bool is∧OneOf o x is∧Boxes wx [(pe,[.string (strOf x.key),.string (strOf x.v.data),.bool x.v.far,.int .i64 x.v.size,.int .i64 x.v.page])]∧wr.heap.size≤pe∧Below wr.heap.size wr wx
theorem rnget_form (b:List UInt8) (w:World) (hl:b.length≤140737488351232) (hE:unpE b=0) :
 Calls Tryz.prog 101 #[.string (strOf b)] w (RGetNPost w (getNF b) (getNL b) (getNE b)):=by
 have hB:=below_one w (.cells #[.bool false,.slice none 0 0] 221);have BX:=(Boxes.nil w).alloc #[.bool false,.slice none 0 0] 221 rfl;have hun:=runpack_any b (w.alloc (.cells #[.bool false,.slice none 0 0] 221)) hl;have hmany:=unp_many b;have hcl:=unp_cell b hE;have hlk:(((unpK b).toNat:Int) == 1)=leafK b:=u8_eq (unpK b) 1;have hgE:getNE b=if decide ((unpK b).toNat≤2) && (match decL (leafK b) (unpL b) with|some l=>nodeB (leafK b) l|none=>false) then 0 else 11:=by
  rw[getNE,if_neg (by rw[hE];simp),getNB,entN];rfl
 have hgL:getNL b=if getNE b=0 then (decL (leafK b) (unpL b)).getD [] else []:=by rw[getNL,entN]
 have hgF:getNF b=if getNE b=0 then leafK b else false:=by rw[getNF]
 rw[hE] at hun;have hkl:=(unpK b).toNat_lt;unfold RUnpPost at hun;generalize unpL b=cl at *;generalize getNE b=gE at *;generalize getNL b=gL at *;generalize getNF b=gF at *;generalize leafK b=leaf at *;generalize (unpK b).toNat=kd at *;have HE:=Hd hgE;have HL:=Hd hgL;have HF:=Hd hgF;have HC:=Hd hcl;clear hE hgE hgL hgF hcl;go_enter Tryz.func101,Tryz.ntmps101;go_wp2_with fail;refine hun.mono ?_;rintro e w1 ⟨v1,rfl,hob,hb1⟩;obtain⟨ac,cc,rfl,hbs⟩:=Strs.of_own hob;have BX:=BX.step hb1;have hb:=below_then hB hb1;have hlt1:=BX.lt 0 rfl;have BY:=BX.alloc #[.bool leaf,.slice none 0 0] 221 rfl;have hb4:=below_one w1 (.cells #[.bool leaf,.slice none 0 0] 221);have HBS:=Hd hbs;have HB:=Hd hb;clear hob hun hb1 BX hbs hb;go_wp2_with fail
 go_loopw [8] (fun i wr=>∃(k:Nat) (v:Value) (es:List En),k≤cl.length∧i=.int .i64 k∧DecTo leaf cl k es∧Boxes wr [(w1.heap.size,[.bool leaf,v]),(w.heap.size,[.bool false,.slice none 0 0])]∧OwnRe wr (w1.heap.size+1) v es∧Below w1.heap.size w1 wr) (fun i _=>cl.length-(intOf i).toNat)
 case atStart=>exact⟨0,_,[],Nat.zero_le _,rfl,rfl,BY,OwnRe.nil _ _,hb4⟩
 case round=>
  obtain⟨k,v,es,hk,rfl,hdt,BY,hown,hbw⟩:=hrel;have hsz:=hbw.size;have HDT:=Hd hdt;have hes:=hdt.len;clear hdt
  by_cases hlt:k<cl.length
  ·obtain⟨b5,off5,rfl,hbb5,hcell5⟩:=(HBS.out.below (Nat.le_refl _) hbw).at hlt
   obtain⟨c,hc⟩:∃c,cl[k]? = some c:=⟨_,List.getElem?_eq_getElem hlt⟩
   rw[hc,Option.getD_some] at hcell5;have h5:c.length≤128:=HC.out c (List.mem_of_getElem? hc);have HCK:=Hd hc;have TO:=fun W=>one_any leaf c W (by omega)
   have BY0:=Hd BY;have HO0:=Hd hown;clear hc hown;obtain⟨o,ho⟩:∃o,decE leaf c=o:=⟨_,rfl⟩
   rw[ho] at TO;have HO2:=Hd ho;clear ho;go_wp2_with fail;have c0:∀W,Below wr.heap.size wr W→W.cell? ⟨w1.heap.size,0,none⟩=some (.bool leaf):=fun W hW=>(BY0.out.step hW).cell 0 0 rfl rfl
   have c5:∀W,Below wr.heap.size wr W→W.cell? ⟨b5,off5+k,none⟩=some (.string (strOf c)):=fun W hW=>(hW.cell (p:=⟨b5,off5+k,none⟩) hbb5).trans hcell5
   have hC:Below wr.heap.size wr wr.drew:=(Below.refl _ _).drew;have hCa:Below wr.heap.size wr (wr.alloc (.cells #[.string ⟨#[]⟩,.string ⟨#[]⟩,.bool false,.int .i64 0,.int .i64 0] 226)).drew:=(below_one _ _).drew;have BA:Boxes (wr.alloc (.cells #[.string ⟨#[]⟩,.string ⟨#[]⟩,.bool false,.int .i64 0,.int .i64 0] 226)).drew [(wr.heap.size,[.string ⟨#[]⟩,.string ⟨#[]⟩,.bool false,.int .i64 0,.int .i64 0])]:=((Boxes.nil wr).alloc #[.string ⟨#[]⟩,.string ⟨#[]⟩,.bool false,.int .i64 0,.int .i64 0] 226 rfl).drew;clear BY hcell5;go_upto_region 8 with(fail)
   go_cut [9,10] (fun p q wx=>OneBox wr o p q wx)
   case first=>
    go_region_held3 (fun W=>Below wr.heap.size wr W) (first|with_reducible assumption|(with_reducible exact hC5.alloc hC5.size _)|(with_reducible exact((((hC5.setCell (Nat.le_refl _) _).setCell (Nat.le_refl _) _).setCell (Nat.le_refl _) _).setCell (Nat.le_refl _) _).setCell (Nat.le_refl _) _)) (first|(go_at_call 147;(with_reducible refine(TO _).mono ?_);rintro e w5 ⟨x,is,rfl,hof,hb5⟩;unfold ev;have hC5:=hC.trans (hb5.mono hC.size))|(go_at_call 147;(with_reducible refine(TO _).mono ?_);rintro e w5 ⟨x,is,rfl,hof,hb5⟩;unfold ev;have hC5:=hCa.trans (hb5.mono hCa.size);have BE:=BA.step hb5;have b0:=BE.cell 0 0 rfl rfl;have b1:=BE.cell 0 1 rfl rfl;have b2:=BE.cell 0 2 rfl rfl;have b3:=BE.cell 0 3 rfl rfl;have b4:=BE.cell 0 4 rfl rfl;have d0:=BE.frozen 0 0 rfl;have d1:=BE.frozen 0 1 rfl;have d2:=BE.frozen 0 2 rfl;have d3:=BE.frozen 0 3 rfl;have d4:=BE.frozen 0 4 rfl))
    ·go_wp2_with fail
     go_meet;exact⟨_,x,is,rfl,rfl,hof,(Boxes.nil w5).alloc #[.string (strOf x.key),.string (strOf x.v.data),.bool x.v.far,.int .i64 x.v.size,.int .i64 x.v.page] 226 rfl,hC5.size,hC5.alloc hC5.size _⟩
    ·go_wp2_with fail
     go_meet;obtain⟨_,rfl,BZ,hb9⟩:=box_five BE hC5 (Nat.le_refl _) (.string (strOf x.key)) (.string (strOf x.v.data)) (.bool x.v.far) (.int .i64 x.v.size) (.int .i64 x.v.page);exact⟨_,x,is,rfl,rfl,hof,BZ,Nat.le_refl _,hb9⟩
   case rest=>
   unfold OneBox at hcut;obtain⟨pe,x,is,rfl,rfl,hof,BE,hpe,hb5⟩:=hcut;clear c0 c5 hC hCa BA;have hnb:=BY0.out.lt 0 rfl;have hz5:=hb5.size;have BY5:=BY0.out.step hb5;have hown5:=HO0.out.below (Nat.le_refl _) hb5;have hbw5:=below_then hbw hb5;cases o with
   | none=>
    have:is=false:=hof;subst this;have hN:decL leaf cl=none:=decL_none HCK.out HO2.out;have hE:gE=11:=by rw[HE.out,hN];simp
    have hL:gL=[]:=by rw[HL.out,if_neg (by rw[hE];decide)]
    have hF:gF=false:=by rw[HF.out,if_neg (by rw[hE];decide)]
    clear hN;subst hE hL hF;have f0:=BY5.frozen 1 0 rfl;have f1:=BY5.frozen 1 1 rfl;have g0:=BY5.cell 1 0 rfl rfl;have g1:=BY5.cell 1 1 rfl rfl;go_wp2_with fail;refine bodyPost_ret (v:=.tuple #[.agg #[.bool false,.slice none 0 0],.int .i64 11]) (by simp[results,Tryz.results101,go_sem,g0,g1]) rfl (rgetpost_none rfl ?_);exact((((below_then HB.out hbw5).setCell (Nat.le_refl _) _).setCell (Nat.le_refl _) _))
   | some y=>
    obtain⟨rfl,rfl⟩:=hof;have HDT2:=Hd (HDT.out.step HCK.out HO2.out);have hsz5:=hbw5.size;have e0:=BE.cell 0 0 rfl rfl;have e1:=BE.cell 0 1 rfl rfl;have e2:=BE.cell 0 2 rfl rfl;have e3:=BE.cell 0 3 rfl rfl;have e4:=BE.cell 0 4 rfl rfl;have n1:=BY5.cell 0 1 rfl rfl;obtain⟨v9,w9,hr9,ho9,hg9⟩:=append_re hown5 x (by omega) (by omega);obtain⟨a9,k9,rfl,hk91,hk92,hk93⟩:=own_slice ho9;rw[show(es++[x]:List En).length=es.length+1 from by simp] at ho9 hr9;have hne1:v.ownBlock≠some w1.heap.size:=fun e=>by have:=own_ge hown5 _ e;omega
    have BW:=BY5.grown hg9 (fun p hp=>by
     simp at hp
     rcases hp with rfl|rfl
     ·exact hne1
     ·intro e;have:=own_ge hown5 _ e;omega)
    have f1:=BW.frozen 0 1 rfl;have m1:=BW.cell 0 1 rfl rfl;have hbw9:Below w1.heap.size w1 w9:=hbw5.grown hg9 hsz5 (fun k e=>by have:=own_ge hown5 _ e;omega);have HB9:=Hd hbw9;have HO9:=Hd ho9;clear hbw9 ho9 hk91 hk92 hk93
    go_wp2_with (at_builtin;refine wpList_append_run rfl _ _ _ _ rfl rfl rfl hr9 ?_)
    go_roundw
    case rel=>
     have hne9:Value.ownBlock (.slice a9 (es.length+1) k9)≠some w1.heap.size:=fun e=>by have:=own_ge HO9.out _ e;omega
     exact⟨k+1,_,_,by omega,by go_num,HDT2.out,BW.put 1 _ (fun p hp=>by simp at hp;subst hp;simp;omega),own_set HO9.out ⟨w1.heap.size,1,none⟩ (.slice a9 (es.length+1) k9) hne9,HB9.out.setCell (Nat.le_refl _) _⟩
    case measure=>simp[intOf];omega
  ·obtain rfl:k=cl.length:=by omega
   have hdl:decL leaf cl=some es:=by have:=HDT.out;unfold DecTo at this;rwa [List.take_length] at this
   have hes16:SmE es:=fun e he=>by have:=decL_small hdl HC.out e he;omega
   obtain⟨av,kv,rfl,hen⟩:=hown.ents;have CK:=rcheckN_any leaf av es.length kv es wr hen (by omega) hes16;have hE:gE=if decide (kd≤2) && nodeB leaf es then 0 else 11:=by rw[HE.out,hdl]
   have e0:=BY.cell 0 0 rfl rfl;have e1:=BY.cell 0 1 rfl rfl;have HO:=Hd hown;clear hown hen;have hbb:=below_then HB.out hbw;cases hn:nodeB leaf es with
   | true=>
    rw[hn] at CK hE
    by_cases hk2:kd≤2
    ·have hE0:gE=0:=by rw[hE,decide_eq_true hk2];rfl
     have hL:gL=es:=by rw[HL.out,if_pos hE0,hdl];rfl
     have hF:gF=leaf:=by rw[HF.out,if_pos hE0]
     have mc2430f:=trivial;exact qc8892e
    ·have hE0:gE=11:=by rw[hE,decide_eq_false hk2];rfl
     have me4faf6:=trivial;exact qec5b5c
   | false=>
    rw[hn] at CK hE;have hE0:gE=11:=by rw[hE,Bool.and_false];rfl
    have m18d69e:=trivial;exact qec5b5c
theorem rnget_any (b:List UInt8) (w:World) (hl:b.length≤140737488351232) :
 Calls Tryz.prog 101 #[.string (strOf b)] w (RGetNPost w (getNF b) (getNL b) (getNE b)):=by
 by_cases hE:unpE b=0
 ·exact rnget_form b w hl hE
 ·have hE2:getNE b=unpE b:=by rw[getNE,if_pos hE]
  have hL2:getNL b=[]:=by rw[getNL,hE2,if_neg hE]
  have hF2:getNF b=false:=by rw[getNF,hE2,if_neg hE]
  rw[hE2,hL2,hF2];exact rnget_err b w hl hE
open Go.RowKit
def RLoadPost (w:World) (sb:Nat) (a:Option Addr) (len cap:Nat) (d:List Rg) (r:Int) (v:Value) (n:Nat) (R:Except Int (List Int×Tr)) (e:Ending) (w':World):Prop:=
 ∃(p:Int) (lf:Bool) (xa:Option Addr) (xn xc:Nat) (v':Value) (seen':List Int) (E':Int),e=.returned (.agg #[.int .i64 p,.bool lf,.slice xa xn xc])∧RLd w' sb a len cap d r v' seen' E'∧Only (RS sb v) w w'∧Turn w v v'∧match R with
  | .ok (s,t)=>E'=0∧seen'=s∧RNodeOn (fun b=>w.heap.size≤b∧v'.ownBlock≠some b) n w' [.int .i64 p,.bool lf,.slice xa xn xc] t
  | .error x=>E'=x∧x≠0
theorem zero_refN (w:World):(zeroValue 27).run Tryz.prog w=.ok (.agg #[.int .i64 0,.bool false,.slice none 0 0]) w:=by kernel_rfl
theorem zero_refC (w:World):(zeroValue 145).run Tryz.prog w=.ok (.agg #[.string ⟨#[]⟩,.string ⟨#[]⟩,.slice none 0 0,.slice none 0 0]) w:=by kernel_rfl
theorem readB_len (d:List Rg) (r p:Int):(readB d r p).length≤128:=by
 unfold readB
 split
 ·have:=(seen (atR d r) p.toNat).2;omega
 ·simp
def st3 (w:World) (b:Nat) (y0 y1 y2:Value):World:=((w.setCell ⟨b,0,none⟩ y0).setCell ⟨b,1,none⟩ y1).setCell ⟨b,2,none⟩ y2
theorem st3_box {w:World} {b:Nat} {x0 x1 x2:Value} (h:Boxes w [(b,[x0,x1,x2])]) (y0 y1 y2:Value):Boxes (st3 w b y0 y1 y2) [(b,[y0,y1,y2])]:=
 ((h.put 0 y0 (by intro q hq;simp at hq)).put 1 y1 (by intro q hq;simp at hq)).put 2 y2 (by intro q hq;simp at hq)
theorem st3_only (w:World) (b:Nat) (y0 y1 y2:Value):Only [b] w (st3 w b y0 y1 y2):=(((Only.refl _ _).set _ _ (by simp)).set _ _ (by simp)).set _ _ (by simp)
theorem rload_left {w wq:World} {sb:Nat} {a:Option Addr} {len cap:Nat} {d:List Rg} {r:Int} {v vq:Value} {sq:List Int} {Eq:Int} (hd:RLd wq sb a len cap d r vq sq Eq) (ho:Only (RS sb v) w wq) (hs:sb<w.heap.size) (hv:vq.ownBlock≠some w.heap.size) (y0 y1 y2:Value) :
 RLd (st3 wq w.heap.size y0 y1 y2) sb a len cap d r vq sq Eq∧Only (RS sb v) w (st3 wq w.heap.size y0 y1 y2):=
 ⟨hd.only (st3_only _ _ _ _ _) (fun k hk=>by simp at hk;subst hk;exact⟨hs,hv⟩),ho.then (st3_only _ _ _ _ _) (fun k hk=>by simp at hk;subst hk;exact .inr (Nat.le_refl _))⟩
theorem turn_ne {w w1:World} {v v1:Value} (ht:Turn w1 v v1) (hv:∀k,v.ownBlock=some k→k<w.heap.size) {b:Nat} (h0:w.heap.size≤b) (h1:b<w1.heap.size):v1.ownBlock≠some b:=fun e=>by
 rcases ht with t|t
 ·have:=hv b (t ▸ e);omega
 ·have:=t b e;omega
theorem rload_seen {w:World} {sb:Nat} {a:Option Addr} {len cap:Nat} {d:List Rg} {r:Int} {v:Value} {seen:List Int} (n:Nat) (h:RLd w sb a len cap d r v seen 0) (hs:SeenOk seen) (p:Int) (hm:p∈seen) :
 Calls Tryz.prog 54 #[.pointer (some ⟨sb,0,none⟩),.int .i64 p] w (RLoadPost w sb a len cap d r v (n+1) (loadT d r (n+1) seen p)):=by
 have mbd62e8:=trivial;exact q0085b3
theorem rload_bad {w:World} {sb:Nat} {a:Option Addr} {len cap:Nat} {d:List Rg} {r:Int} {v:Value} {seen:List Int} (n:Nat) (h:RLd w sb a len cap d r v seen 0) (hs:SeenOk seen) (p:Int) (hm:p∉seen) (hP:pagedE d r p≠0) :
 Calls Tryz.prog 54 #[.pointer (some ⟨sb,0,none⟩),.int .i64 p] w (RLoadPost w sb a len cap d r v (n+1) (loadT d r (n+1) seen p)):=by
 have m3dbb1c:=trivial;exact qe2d857
theorem rload_leaf {w:World} {sb:Nat} {a:Option Addr} {len cap:Nat} {d:List Rg} {r:Int} {v:Value} {seen:List Int} (n:Nat) (hd:DOk d) (h:RLd w sb a len cap d r v seen 0) (hs:SeenOk seen) (p:Int) (hm:p∉seen) (hP:pagedE d r p=0) (hF:getNF (readB d r p)=true) :
 Calls Tryz.prog 54 #[.pointer (some ⟨sb,0,none⟩),.int .i64 p] w (RLoadPost w sb a len cap d r v (n+1) (loadT d r (n+1) seen p)):=by
 obtain⟨R0,hR0⟩:∃R0,valsL d r (seen++[p]) (getNL (readB d r p))=R0:=⟨_,rfl⟩
 have m79efea:=trivial;exact qe2d857
theorem rload_node {w:World} {sb:Nat} {a:Option Addr} {len cap:Nat} {d:List Rg} {r:Int} {v:Value} {seen:List Int} {n:Nat} (hd:DOk d) (IH:∀{w:World} {v:Value} {seen:List Int} {p:Int},RLd w sb a len cap d r v seen 0→SeenOk seen→roomL seen<n→p≠0→Calls Tryz.prog 54 #[.pointer (some ⟨sb,0,none⟩),.int .i64 p] w (RLoadPost w sb a len cap d r v n (loadT d r n seen p))) (h:RLd w sb a len cap d r v seen 0) (hs:SeenOk seen) (p:Int) (hm:p∉seen) (hroom:roomL seen<n+1) (hp0:p≠0) (hP:pagedE d r p=0) (hF:getNF (readB d r p)=false) :
 Calls Tryz.prog 54 #[.pointer (some ⟨sb,0,none⟩),.int .i64 p] w (RLoadPost w sb a len cap d r v (n+1) (loadT d r (n+1) seen p)):=by
 obtain⟨R0,hR0⟩:∃R0,kidsL (loadT d r n) (seen++[p]) (getNL (readB d r p))=R0:=⟨_,rfl⟩
 have maea418:=trivial;exact qe2d857
theorem rload_any:∀(n:Nat) {w:World} {sb:Nat} {a:Option Addr} {len cap:Nat} {d:List Rg} {r:Int} {v:Value} {seen:List Int} {p:Int},DOk d→RLd w sb a len cap d r v seen 0→SeenOk seen→roomL seen<n→p≠0 →
 Calls Tryz.prog 54 #[.pointer (some ⟨sb,0,none⟩),.int .i64 p] w (RLoadPost w sb a len cap d r v n (loadT d r n seen p))
 | 0,_,_,_,_,_,_,_,_,_,_,_,_,_,h,_=>absurd h (Nat.not_lt_zero _)
 | n+1,_,_,_,_,_,d,r,_,seen,p,hd,h,hs,hroom,hp0=>by
  by_cases hm:p∈seen
  ·exact rload_seen n h hs p hm
  ·by_cases hP:pagedE d r p=0
   ·cases hF:getNF (readB d r p) with
    | true=>exact rload_leaf n hd h hs p hm hP hF
    | false=>exact rload_node hd (fun h hs hr hp0=>rload_any n hd h hs hr hp0) h hs p hm hroom hp0 hP hF
   ·exact rload_bad n h hs p hm hP
theorem dec_len {n:Nat} {b:Nat}:decide (n≤b) = !decide ((b:Int)<(n:Int)):=by
 by_cases h:n≤b
 ·rw[decide_eq_true h,decide_eq_false (by omega)];rfl
 ·rw[decide_eq_false h,decide_eq_true (by omega)];rfl
theorem beq_nil (k:List UInt8):(k == [])=decide (k=[]):=by
 cases k<;>rfl
theorem fitAt_bools {lo hi k:List UInt8} {leaf:Bool} {ks:List (List UInt8)} {i:Nat} (hk:ks[i]?.getD []=k) :
 fitAt lo hi leaf ks i=(((i == 0 && !leaf) == decide (k=[])) && (!decide ((16:Int)<(k.length:Int)) && ((i == 0 || decide (ks[i-1]?.getD []<k)) && (((i == 0 && !leaf) || !decide (k<lo)) && (decide (hi=[]) || decide (k<hi)))))):=by
 unfold fitAt;rw[hk,beq_nil,beq_nil,dec_len]
 rfl
theorem fitAt_any {lo hi k kp:List UInt8} {leaf:Bool} {ks:List (List UInt8)} {i:Nat} {F P:Bool} (hk:ks[i]?.getD []=k) (hp:ks[i-1]?.getD []=kp) (hF:(i == 0 && !leaf)=F) (hP:decide ((0:Int)<(i:Int))=P) :
 fitAt lo hi leaf ks i=((F == decide (k=[])) && (!decide ((16:Int)<(k.length:Int)) && ((!P || !(!decide (kp<k))) && ((F || !decide (k<lo)) && (!(!decide (hi=[])) || !(!decide (k<hi))))))):=by
 have e:(i == 0) = !P:=by
  rw[←hP]
  by_cases h:i=0
  ·subst h;rfl
  ·rw[decide_eq_true (by omega)];simpa using h
 rw[fitAt_bools hk,hp,hF,e,Bool.not_not,Bool.not_not,Bool.not_not]
theorem valB_bools {v:Tv} {dl pn nd:Nat} (h1:v.data.length=dl) (h2:v.pages.length=pn) (h3:needC (dl:Int)=nd) :
 valB v=(!decide ((400:Int)<(dl:Int)) && !(decide ((0:Int)<(pn:Int)) && decide (nd=0))):=by
 unfold valB;rw[h1,h2,h3,dec_len];have e:(pn == 0 || decide (nd≠0)) = !(decide ((0:Int)<(pn:Int)) && decide (nd=0)):=by
  by_cases hp:pn=0
  ·subst hp;simp
  ·have:decide ((0:Int)<(pn:Int))=true:=decide_eq_true (by omega)
   rw[this]
   by_cases hn:nd=0<;>simp[hp,hn]
 rw[e]
 rfl
open Go.RowKit
theorem rnode_leaf {n:Nat}
 {F:Nat→Prop} {w:World} {cs:List Value} {p:Int} {l:List (List UInt8×Tv)} (h:RNodeOn F (n+1) w cs (.leaf p l)) (hb:Bnd (n+1) (.leaf p l)) (hn:n≤1000) (lo hi:List UInt8) (root:Bool) (hlo:lo.length≤1000) (hhi:hi.length≤1000) :
 Calls Tryz.prog 103 #[.agg cs.toArray,.string (strOf lo),.string (strOf hi),.bool root] w fun e w'=>e=.returned (.int .i64 (depI (depthT (n+1) (.leaf p l) lo hi root)))∧Below w.heap.size w w':=by
 have CS:=fun W (hW:Below w.heap.size w W)=>rsizes_any (h.below hW) hb
 have hSm:=hb.small;obtain⟨a,c,rfl,h1,_⟩:=h.at;obtain⟨g1,g2⟩:=hb;obtain⟨e1,e2,e3⟩:=h1.lens;obtain⟨m,hml⟩:∃m,cntT (.leaf p l)=m:=⟨_,rfl⟩
 have hlm:l.length=m:=hml;obtain⟨R,hR⟩:∃R,depthT (n+1) (.leaf p l) lo hi root=R:=⟨_,rfl⟩
 obtain⟨S,hS⟩:∃S,sizesT (.leaf p l)=S:=⟨_,rfl⟩
 have hsz:sizeB root (.leaf p l)=(decide (1≤m) && (decide (sumI S≤122) && (root || !decide (sumI S<30)))):=by
  unfold sizeB sumT lowT;rw[hml,←hS];rfl
 obtain⟨sm,hsm⟩:∃x,sumI S=x:=⟨_,rfl⟩
 rw[hS] at CS hSm;rw[hsm] at hsz;have hd:=depthT_leaf n p l lo hi root;rw[hR] at hd;have hfit:fitT lo hi (.leaf p l)=(fitTo lo hi true (keysOf l) m && l.all fun c=>valB c.2):=by rw[←hlm];rfl
 generalize sizeB root (.leaf p l)=SZ at *;generalize fitT lo hi (.leaf p l)=FT at *;rw[hR,show(Tr.leaf p l).page=p from rfl,show(Tr.leaf p l).isLeaf=true from rfl];rw[hml] at h1 e1 e2 CS ⊢;have HV:=Hd h1;have HSm:=Hd hSm;have HSM:=Hd hsm;have HSZ:=Hd hsz;have HD:=Hd hd;have HFT:=Hd hfit;have HL:=Hd hlm;have HG:=Hd g2;have hm9:m≤1000:=by omega
 have HB0:=Hd ((Below.refl _ _).alloc (Nat.le_refl _) _:Below w.heap.size w (w.alloc (.cells #[.int .i64 p,.bool true,.slice a m c] 27)));have HX0:=Hd ((Boxes.nil w).alloc #[.int .i64 p,.bool true,.slice a m c] 27 (b:=w.heap.size) rfl);obtain⟨W1,hW1⟩:∃x,w.alloc (.cells #[.int .i64 p,.bool true,.slice a m c] 27)=x:=⟨_,rfl⟩
 rw[hW1] at HB0 HX0;have CS1:=CS _ HB0.out;have CS2:∀W,Below W1.heap.size W1 W→Calls Tryz.prog 126 #[.agg #[.int .i64 p,.bool true,.slice a m c]] W (SizesPost W S):=fun W hW=>CS W (below_via HB0.out hW)
 clear h h1 g1 g2 e1 hml hS hR hd hfit hsz hsm hSm hlm CS;have n0:=HX0.out.cell 0 0 rfl rfl;have n1:=HX0.out.cell 0 1 rfl rfl;have n2:=HX0.out.cell 0 2 rfl rfl;show Calls _ _ #[.agg #[.int .i64 p,.bool true,.slice a m c],.string (strOf lo),.string (strOf hi),.bool root] _ _;have mba7c88:=trivial;exact q44d6a3
open Go.RowKit
theorem rnode_branch {n:Nat}
 (IH:∀{w:World} {cs:List Value} {t:Tr} {F:Nat→Prop},RNodeOn F n w cs t→Bnd n t→∀(lo hi:List UInt8),lo.length≤1000→hi.length≤1000 →
  Calls Tryz.prog 103 #[.agg cs.toArray,.string (strOf lo),.string (strOf hi),.bool false] w fun e w'=>e=.returned (.int .i64 (depI (depthT n t lo hi false)))∧Below w.heap.size w w')
 {F:Nat→Prop} {w:World} {cs:List Value} {p:Int} {l:List (List UInt8×Tr)} (h:RNodeOn F (n+1) w cs (.node p l)) (hb:Bnd (n+1) (.node p l)) (hn:n≤1000) (lo hi:List UInt8) (root:Bool) (hlo:lo.length≤1000) (hhi:hi.length≤1000) :
 Calls Tryz.prog 103 #[.agg cs.toArray,.string (strOf lo),.string (strOf hi),.bool root] w fun e w'=>e=.returned (.int .i64 (depI (depthT (n+1) (.node p l) lo hi root)))∧Below w.heap.size w w':=by
 have CS:=fun W (hW:Below w.heap.size w W)=>rsizes_any (h.below hW) hb
 have hSm:=hb.small;obtain⟨a,c,rfl,h1,_⟩:=h.at;obtain⟨g1,g2⟩:=hb;obtain⟨e1,e2,e3⟩:=h1.lens;obtain⟨m,hml⟩:∃m,cntT (.node p l)=m:=⟨_,rfl⟩
 have hlm:l.length=m:=hml;obtain⟨R,hR⟩:∃R,depthT (n+1) (.node p l) lo hi root=R:=⟨_,rfl⟩
 obtain⟨S,hS⟩:∃S,sizesT (.node p l)=S:=⟨_,rfl⟩
 have hsz:sizeB root (.node p l)=(decide (2≤m) && (decide (sumI S≤122) && (root || !decide (sumI S<30)))):=by
  unfold sizeB sumT lowT;rw[hml,←hS];rfl
 obtain⟨sm,hsm⟩:∃x,sumI S=x:=⟨_,rfl⟩
 rw[hS] at CS hSm;rw[hsm] at hsz;have hd:=depthT_node n p l lo hi root;rw[hR] at hd;have hfit:fitT lo hi (.node p l)=fitTo lo hi false (keysOf l) m:=by rw[←hlm];rfl
 obtain⟨R2,hR2⟩:∃R2,depK (fun t lo hi=>depthT n t lo hi false) lo hi 0 0 l=R2:=⟨_,rfl⟩
 rw[hR2] at hd;generalize sizeB root (.node p l)=SZ at *;generalize fitT lo hi (.node p l)=FT at *;rw[hR,show(Tr.node p l).page=p from rfl,show(Tr.node p l).isLeaf=false from rfl];rw[hml] at h1 e1 e2 CS ⊢;have HV:=Hd h1;have HSm:=Hd hSm;have HSM:=Hd hsm;have HSZ:=Hd hsz;have HD:=Hd hd;have HFT:=Hd hfit;have HL:=Hd hlm;have HG:=Hd g2;have hm9:m≤1000:=by omega
 have HR2:=Hd hR2;clear hR2;have HB0:=Hd ((Below.refl _ _).alloc (Nat.le_refl _) _:Below w.heap.size w (w.alloc (.cells #[.int .i64 p,.bool false,.slice a m c] 27)));have HX0:=Hd ((Boxes.nil w).alloc #[.int .i64 p,.bool false,.slice a m c] 27 (b:=w.heap.size) rfl);obtain⟨W1,hW1⟩:∃x,w.alloc (.cells #[.int .i64 p,.bool false,.slice a m c] 27)=x:=⟨_,rfl⟩
 rw[hW1] at HB0 HX0;have CS1:=CS _ HB0.out;have CS2:∀W,Below W1.heap.size W1 W→Calls Tryz.prog 126 #[.agg #[.int .i64 p,.bool false,.slice a m c]] W (SizesPost W S):=fun W hW=>CS W (below_via HB0.out hW)
 clear h h1 g1 g2 e1 hml hS hR hd hfit hsz hsm hSm hlm CS;have n0:=HX0.out.cell 0 0 rfl rfl;have n1:=HX0.out.cell 0 1 rfl rfl;have n2:=HX0.out.cell 0 2 rfl rfl;show Calls _ _ #[.agg #[.int .i64 p,.bool false,.slice a m c],.string (strOf lo),.string (strOf hi),.bool root] _ _;have m333406:=trivial;exact q44d6a3
open Go.RowKit
theorem rnode_any:∀{n:Nat} {w:World} {cs:List Value} {t:Tr} {F:Nat→Prop},RNodeOn F n w cs t→Bnd n t→n≤1000→∀(lo hi:List UInt8) (root:Bool),lo.length≤1000→hi.length≤1000 →
 Calls Tryz.prog 103 #[.agg cs.toArray,.string (strOf lo),.string (strOf hi),.bool root] w fun e w'=>e=.returned (.int .i64 (depI (depthT n t lo hi root)))∧Below w.heap.size w w'
 | 0,_,_,_,_,h,_,_,_,_,_,_,_=>h.elim
 | _n+1,_,_,.leaf _p _l,_,h,hb,hn,lo,hi,root,hlo,hhi=>rnode_leaf h hb (by omega) lo hi root hlo hhi
 | _n+1,_,_,.node _p _l,_,h,hb,hn,lo,hi,root,hlo,hhi=>rnode_branch (fun h hb lo hi hlo hhi=>rnode_any h hb (by omega) lo hi false hlo hhi) h hb (by omega) lo hi root hlo hhi
theorem rcheck_any {n:Nat} {F:Nat→Prop} {w:World} {cs:List Value} {t:Tr} (h:RNodeOn F n w cs t) (hb:Bnd n t) (hn:n≤1000) :
 Calls Tryz.prog 55 #[.agg cs.toArray] w fun e w'=>e=.returned (.bool (checkT n t))∧Below w.heap.size w w':=by
 cases n with
 | zero=>exact h.elim
 | succ n=>
 have hh:=h;obtain⟨a,c,rfl,h1,_⟩:=h.at;obtain⟨lf,hlf⟩:∃x,t.isLeaf=x:=⟨_,rfl⟩
 obtain⟨m,hm⟩:∃x,cntT t=x:=⟨_,rfl⟩
 obtain⟨pg,hpg⟩:∃x,t.page=x:=⟨_,rfl⟩
 have hm9:m≤1000:=by rw[←hm];exact hb.cnt
 rw[hlf,hm,hpg] at hh;have hB0:Below w.heap.size w (w.alloc (.cells #[.int .i64 pg,.bool lf,.slice a m c] 27)):=Below.al (Below.refl _ _);have hX0:Boxes _ [(w.heap.size,[.int .i64 pg,.bool lf,.slice a m c])]:=((Boxes.nil w).alloc #[.int .i64 pg,.bool lf,.slice a m c] 27 rfl)
 obtain⟨wA,hwA⟩:∃wA,w.alloc (.cells #[.int .i64 pg,.bool lf,.slice a m c] 27)=wA:=⟨_,rfl⟩
 rw[hwA] at hB0 hX0;rw[hlf,hm,hpg];have CF:=rnode_any (hh.below hB0) hb hn [] [] true (by decide) (by decide);have m630d4a:=trivial;exact qa8e0cc
open Go.RowKit
theorem info_L:(Tryz.prog.info? 128).map (fun i=>(i.zero,i.size,i.bytes))=some (some (.agg #[.int .i64 0,.string ByteArray.empty]),2,24):=by kernel_rfl
theorem lcells_one (y:Nat×P128):∀u∈lcells y,u.oneCell'=true:=by
 intro u hu;simp only[lcells,List.mem_cons,List.not_mem_nil,or_false] at hu
 rcases hu with rfl|rfl<;>rfl
def RPost (K:Nat→Prop) (w:World) (d:List Rg) (er:Int) (e:Ending) (w':World):Prop:=∃a n cap,e=.returned (.tuple #[.slice a n cap,.int .i64 er])∧GsK (From K w.heap.size) w' a n cap d∧Below w.heap.size w w'
theorem cntR_left (x:Rg) (h1 : -1≤x.left) (h2:x.left≤9223372036854775807) : -1≤(cntR x).left∧(cntR x).left≤9223372036854775807:=by
 unfold cntR;split
 ·exact⟨h1,h2⟩
 ·split
  ·simp only;omega
  ·exact⟨h1,h2⟩
theorem with_rg2 {K:Nat→Prop} {w:World} {a:Option Addr} {len cap:Nat} {d:List Rg} (h:GsK K w a len cap d) (hlen:len≤1000) (i:Nat) (hi:i<len) (x:Rg) {pa:Option Addr} {pc:Nat} {la:Option Addr} {lc:Nat} {n m:Nat} {cl:Int} {cd:Bool} (hn:x.size=n) (hm:x.loose.length=m) (hcl:x.left=cl) (hcd:x.down=cd) (hp:∀W,Agree K w W→Txs W pa n pc (pagesL x)) (hl:∀W,Agree K w W→Ls W la m lc x.loose) (hs:n≤1000) (hs2:∀p∈x.loose,p.1<n) (h1 : -1≤cl) (h2:cl≤9223372036854775807) :
 Calls Tryz.prog 49 #[.slice a len cap,.int .i64 (i:Int),.agg #[.slice pa n pc,.slice la m lc,.int .i64 cl,.bool cd]] w (GsPost K w (d.set i x)):=by
 subst hn hm hcl hcd;exact with_rg h hlen i hi x hp hl hs hs2 h1 h2
theorem rwrite_any {K:Nat→Prop} {w:World} {a:Option Addr} {len cap:Nat} {d:List Rg} (h:GsK K w a len cap d) (hlen:len≤1000) (hL:∀x∈d,x.loose.length≤100000) (r p:Int) (l:List UInt8) :
 Calls Tryz.prog 14 #[.slice a len cap,.int .i64 r,.int .i64 p,.string (strOf l)] w (RPost K w (writeD d r p l) (writeE d r p l)):=by
 have U:=rup_any h.gs (by omega) r p true;have hre:refE d r p true=pagedE d r p:=rfl;rw[hre] at U;have z1:=strOf_size l;have hst:=strOf_toList l
 by_cases hu:pagedE d r p=0
 ·rw[hu] at U
  by_cases hl:l.length=128
  ·obtain⟨i,pn,x,rfl,rfl,hx,hdn,hpn⟩:=pagedE_zero hu
   have hi:i<len:=by have:=(List.getElem?_eq_some_iff.1 hx).1;have:=h.1;omega
   have hLx:=hL x (List.mem_of_getElem? hx);obtain⟨b,off,pa,pc,la,lc,rfl,hb,c0,c1,c2,c3,g2,g3,g4,g5,g6,g7⟩:=h.at hx;have hE:writeE d i pn l=cntE x:=by rw[writeE,if_pos hu,if_pos hl,atR_of hx]
   have hD:writeD d i pn l=d.set i (wroteR x pn (toP l)):=by rw[writeD,if_pos ⟨hu,hl⟩,atR_of hx,Int.toNat_natCast,Int.toNat_natCast]
   have q1:decide ((i:Int)<len)=true:=by simp;omega
   have q2:((l.length:Int) == 128)=true:=by simp;omega
   have q3:(l.length == 128)=true:=by simp;omega
   have C:=counts_rg (w:=w) pa pc la lc x g6 g7;rw[hE,hD];have HL:=Hd hl
   rcases cntE_or x with hc|hc
   ·have hwr:wroteR x pn (toP l)={ cntR x with loose:=x.loose++[(pn,toP l)] }:=by unfold wroteR;rw[if_pos hc]
    rw[hc,hwr];have hcl:=cntR_left x g6 g7;have C:Calls Tryz.prog 48 #[.agg #[.slice pa x.size pc,.slice la x.loose.length lc,.int .i64 x.left,.bool x.down]] w fun e w'=>e=.returned (.tuple #[.agg #[.slice pa x.size pc,.slice la x.loose.length lc,.int .i64 (cntR x).left,.bool (cntR x).down],.int .i64 0])∧Below w.heap.size w w':=C.mono fun e w' ⟨h1,h2⟩=>⟨by rw[h1,hc],h2⟩
    have hnew:lcells (pn,toP l)=[.int .i64 (pn:Int),.string (strOf l)]:=by simp only[lcells,toP_val hl]
    have KEY:∀w1,Below w.heap.size w w1→∃a1 c1 w2 a2 c2 w3,(Builtin.append_ #[115,115] 115 #[.slice none 0 0,.slice la x.loose.length lc]).run Tryz.prog (w1.alloc (.cells #[.slice pa x.size pc,.slice la x.loose.length lc,.int .i64 (cntR x).left,.bool (cntR x).down] 117))=.ok (.slice a1 x.loose.length c1) w2 ∧
     (Builtin.append_ #[115,115] 115 #[.slice a1 x.loose.length c1,.slice (some ⟨w2.heap.size,0,none⟩) 1 1]).run Tryz.prog (w2.alloc (.cells #[.int .i64 (pn:Int),.string (strOf l)] 128))=.ok (.slice a2 (x.loose.length+1) c2) w3 ∧
     w3.cell? ⟨w1.heap.size,0,none⟩=some (.slice pa x.size pc)∧w3.cell? ⟨w1.heap.size,1,none⟩=some (.slice la x.loose.length lc)∧w3.cell? ⟨w1.heap.size,2,none⟩=some (.int .i64 (cntR x).left)∧w3.cell? ⟨w1.heap.size,3,none⟩=some (.bool (cntR x).down)∧w2.cell? ⟨w1.heap.size,1,none⟩=some (.slice la x.loose.length lc)∧w3.frozen? ⟨w1.heap.size,1,none⟩=false ∧
     Below w.heap.size w (w3.setCell ⟨w1.heap.size,1,none⟩ (.slice a2 (x.loose.length+1) c2)) ∧
     Calls Tryz.prog 49 #[.slice (some ⟨b,off,none⟩) len cap,.int .i64 (i:Int),.agg #[.slice pa x.size pc,.slice a2 (x.loose.length+1) c2,.int .i64 (cntR x).left,.bool (cntR x).down]] (w3.setCell ⟨w1.heap.size,1,none⟩ (.slice a2 (x.loose.length+1) c2)) (GsPost (From K w.heap.size) (w3.setCell ⟨w1.heap.size,1,none⟩ (.slice a2 (x.loose.length+1) c2)) (d.set i { cntR x with loose:=x.loose++[(pn,toP l)] })):=by
     intro w1 hb1;have hbx:Below w.heap.size w (w1.alloc (.cells #[.slice pa x.size pc,.slice la x.loose.length lc,.int .i64 (cntR x).left,.bool (cntR x).down] 117)):=hb1.alloc hb1.size _;have HX:Boxes (w1.alloc (.cells #[.slice pa x.size pc,.slice la x.loose.length lc,.int .i64 (cntR x).left,.bool (cntR x).down] 117)) [(w1.heap.size,[.slice pa x.size pc,.slice la x.loose.length lc,.int .i64 (cntR x).left,.bool (cntR x).down])]:=(Boxes.nil w1).alloc _ _ rfl;generalize hwb:w1.alloc (.cells #[.slice pa x.size pc,.slice la x.loose.length lc,.int .i64 (cntR x).left,.bool (cntR x).down] 117)=wb at *;have hszb:wb.heap.size=w1.heap.size+1:=by rw[←hwb];simp
     obtain⟨i0,hi0,hz0,hz1,hz2⟩:=info_parts info_L;obtain⟨v1,w2,hr1,ho1,hg1,_⟩:=run_append_tab (P:=Tryz.prog) (w:=wb) wb.heap.size 115 128 i0 _ 2 24 Tryz.underlying115 hi0 hz0 hz1 hz2 rfl (by decide) (World.ownsRow_nil _ _ _ _) (fun cs y=>cs=lcells y) lcells (fun _ _ h=>h) lcells_length lcells_one (TabR.below (Nat.le_refl _) hbx (g3 w (Agree.refl _ _))) (by unfold maxLen;omega) (by omega) (Nat.le_refl _);simp only[Nat.zero_add,List.nil_append] at ho1;obtain⟨a1,c1,rfl,_⟩:=own_slice ho1;have hg1s:=hg1.size;obtain⟨v2,w3,hr2,ho2,hg2,_⟩:=run_append_new (P:=Tryz.prog) (w:=w2) wb.heap.size 115 128 i0 _ 2 24 Tryz.underlying115 hi0 hz0 hz1 hz2 rfl (by decide) ho1 #[.int .i64 (pn:Int),.string (strOf l)] rfl (by intro u hu;simp at hu;rcases hu with rfl|rfl<;>rfl) (by unfold maxLen;omega) (by omega) hg1s;obtain⟨a2,c2,rfl,_⟩:=own_slice ho2;have hge1:=own_ge ho1;have hge2:=own_ge ho2;have hge3:∀b off,a2=some ⟨b,off,none⟩→w1.heap.size+1≤b:=fun b off e=>by have:=hge2 b (by rw[e];rfl);omega
     have HX2:=HX.grown hg1 (fun p hp e=>by cases e);have HX3:=HX2.grown hg2 (fun p hp e=>by simp at hp;subst hp;have:=hge1 _ e;simp only at this;omega);have hbs:=hb1.size;have hb3:Below w.heap.size w w3:=(hbx.grown hg1 hbx.size (fun k hk=>by cases hk)).grown hg2 (by omega) (fun k hk=>by have:=hge1 k hk;omega);have hb4:Below w.heap.size w (w3.setCell ⟨w1.heap.size,1,none⟩ (.slice a2 (x.loose.length+1) c2)):=hb3.setCell hbs _;refine⟨a1,c1,w2,a2,c2,w3,hr1,hr2,HX3.cell 0 0 rfl rfl,HX3.cell 0 1 rfl rfl,HX3.cell 0 2 rfl rfl,HX3.cell 0 3 rfl rfl,HX2.cell 0 1 rfl rfl,HX3.frozen 0 1 rfl,hb4,?_⟩;have ho3:=own_set ho2 ⟨w1.heap.size,1,none⟩ (.slice a2 (x.loose.length+1) c2) (fun e=>by have:=hge2 _ e;simp only at this;omega);have hxs:x.loose.flatMap lcells ++ #[Value.int .i64 (pn:Int),.string (strOf l)].toList=(x.loose++[(pn,toP l)]).flatMap lcells:=by
      rw[List.flatMap_append];simp[hnew]
     rw[hxs] at ho3;have hln:(x.loose++[(pn,toP l)]).length=x.loose.length+1:=by simp
     obtain⟨a5,c5,e5,htl⟩:=TabR.of_own lcells lcells_length (R:=fun cs y=>cs=lcells y) (fun _=>rfl) (l:=x.loose++[(pn,toP l)]) (by rw[hln];exact ho3);rw[hln] at e5;simp only[Value.slice.injEq] at e5;obtain⟨rfl,_,rfl⟩:=e5;have e1:(cntR x).size=x.size:=wrote_size x;have e3:pagesL { cntR x with loose:=x.loose++[(pn,toP l)] }=pagesL x:=by
      have:(cntR x).pages=x.pages:=by unfold cntR;split<;>(try split)<;>rfl
      unfold pagesL;simp only[e1,this]
     refine with_rg2 ((h.below hb4).mono fun _ hk=>.inl hk) hlen i hi { cntR x with loose:=x.loose++[(pn,toP l)] } e1 hln rfl rfl (fun W hW=>by rw[e3];exact g2 W (Agree.step hb4 hW)) (fun W hW=>by have ht9:=htl;rw[hln] at ht9;exact TabR.agreeK ht9 (fun b off e=>.inr (by have:=hge3 b off e;omega)) W hW) g4 (fun q hq=>?_) hcl.1 hcl.2
     rcases List.mem_append.1 hq with hq|hq
     ·exact g5 q hq
     ·simp at hq;subst hq;exact hpn
    have HK:=Hd KEY;clear h hx hu hdn g2 g3 g5 hre hE hD hwr hc hcl KEY hL hl hpn hnew;generalize hcl:(cntR x).left=cl at *;generalize hcd:(cntR x).down=cd at *;clear hcl hcd;go_enter Tryz.func14,Tryz.ntmps14;go_wp2_with fail;refine U.mono ?_;rintro e w9 ⟨rfl,rfl⟩;clear U;go_wp2_with fail;refine C.mono ?_;rintro e w1 ⟨rfl,hb1⟩;obtain⟨a1,c1',w2,a2,c2',w3,hr1,hr2,k0,k1,k2,k3,k4,kf,hb4,W4⟩:=HK.out w1 hb1;have HB4:=Hd hb4;clear C hb1 hb4;go_upto_region 10 with(at_builtin;refine wpList_append_run rfl _ _ _ _ rfl rfl rfl hr1 ?_)
    go_upto_region 11 with(at_builtin;refine wpList_append_run rfl _ _ _ _ rfl rfl rfl hr2 ?_)
    go_wp2_with fail;refine W4.mono ?_;rintro e w5 ⟨a3,n3,c3',rfl,hg3,hb3⟩;have END:=Hd (show RPost K w (d.set i { cntR x with loose:=x.loose++[(pn,toP l)] }) 0 (.returned (.tuple #[.slice a3 n3 c3',.int .i64 0])) w5 from⟨a3,n3,c3',rfl,hg3.mono (from_up2 HB4.out),below_then HB4.out hb3⟩);clear W4 hg3 hb3;go_wp2_with fail
    go_ret2
    exact END.out
   ·have hwr:wroteR x pn (toP l)=cntR x:=by unfold wroteR;rw[if_neg (by omega)]
    rw[hc,hwr];have hcl:=cntR_left x g6 g7;have C:Calls Tryz.prog 48 #[.agg #[.slice pa x.size pc,.slice la x.loose.length lc,.int .i64 x.left,.bool x.down]] w fun e w'=>e=.returned (.tuple #[.agg #[.slice pa x.size pc,.slice la x.loose.length lc,.int .i64 (cntR x).left,.bool (cntR x).down],.int .i64 3])∧Below w.heap.size w w':=C.mono fun e w' ⟨h1,h2⟩=>⟨by rw[h1,hc],h2⟩
    have W:∀w1,Below w.heap.size w w1→Calls Tryz.prog 49 #[.slice (some ⟨b,off,none⟩) len cap,.int .i64 (i:Int),.agg #[.slice pa x.size pc,.slice la x.loose.length lc,.int .i64 (cntR x).left,.bool (cntR x).down]] w1 (GsPost K w1 (d.set i (cntR x))):=by
     intro w1 hb1;have e1:(cntR x).size=x.size:=wrote_size x;have e2:(cntR x).loose=x.loose:=cntR_loose x;have e3:pagesL (cntR x)=pagesL x:=by
      have:(cntR x).pages=x.pages:=by unfold cntR;split<;>(try split)<;>rfl
      unfold pagesL;rw[e1,this]
     have:=with_rg (h.below hb1) hlen i hi (cntR x) (pa:=pa) (pc:=pc) (la:=la) (lc:=lc) (fun W hW=>by rw[e1,e3];exact g2 W ((agree_below hb1).trans hW)) (fun W hW=>by rw[e2];exact g3 W ((agree_below hb1).trans hW)) (by rw[e1];exact g4) (by rw[e1,e2];exact g5) hcl.1 hcl.2
     rwa [e1,e2] at this
    have HW:=Hd W;clear h hx hu hdn g2 g3 g5 hre hE hD hwr hc hcl W hL hl hpn;generalize (cntR x).left=cl at *;generalize (cntR x).down=cd at *;go_enter Tryz.func14,Tryz.ntmps14;go_wp2_with fail;refine U.mono ?_;rintro e w9 ⟨rfl,rfl⟩;clear U;go_wp2_with fail;refine C.mono ?_;rintro e w1 ⟨rfl,hb1⟩;have hb2:Below w.heap.size w (w1.alloc (.cells #[.slice pa x.size pc,.slice la x.loose.length lc,.int .i64 cl,.bool cd] 117)):=hb1.alloc hb1.size _;have W2:=HW.out _ hb2;have HB2:=Hd hb2;clear C hb1 hb2;go_wp2_with fail;refine W2.mono ?_;rintro e w3 ⟨a3,n3,c3',rfl,hg3,hb3⟩;have END:=Hd (show RPost K w (d.set i (cntR x)) 3 (.returned (.tuple #[.slice a3 n3 c3',.int .i64 3])) w3 from⟨a3,n3,c3',rfl,hg3.mono (from_up HB2.out),below_then HB2.out hb3⟩);clear W2 hg3 hb3;go_wp2_with fail
    go_ret2
    exact END.out
  ·have hE:writeE d r p l=1:=by rw[writeE,if_pos hu,if_neg hl]
   have hD:writeD d r p l=d:=by rw[writeD,if_neg (fun h=>hl h.2)]
   rw[hE,hD];have q2:((l.length:Int) == 128)=false:=by simp;omega
   have q3:(l.length == 128)=false:=by simp;omega
   have END:=Hd (show RPost K w d 1 (.returned (.tuple #[.slice a len cap,.int .i64 1])) w from⟨a,len,cap,rfl,h.mono (fun _ hk=>.inl hk),Below.refl _ _⟩);clear h hu hE hD hre hl hL;go_enter Tryz.func14,Tryz.ntmps14;exact qcffa51
 ·have hE:writeE d r p l=pagedE d r p:=by rw[writeE,if_neg hu]
  have hD:writeD d r p l=d:=by rw[writeD,if_neg (fun h=>hu h.1)]
  rw[hE,hD];have q0:(pagedE d r p == 0)=false:=by simpa using hu
  generalize pagedE d r p=er at *;have END:=Hd (show RPost K w d er (.returned (.tuple #[.slice a len cap,.int .i64 er])) w from⟨a,len,cap,rfl,h.mono (fun _ hk=>.inl hk),Below.refl _ _⟩);clear hu h hre hE hD hL;go_enter Tryz.func14,Tryz.ntmps14;exact qcffa51
open Go.RowKit
def IsGo (B:Nat) (w:World) (g:List Value) (x:Rg):Prop:=∃pa pc,g=[.slice pa x.size pc,.slice none 0 0,.int .i64 x.left,.bool x.down]∧w.ownsRow B 9 1 (.slice pa x.size pc) x.size ((pagesL x).map strV)∧x.loose=[]∧x.size≤1000 ∧ -1≤x.left∧x.left≤9223372036854775807
theorem IsGo.isG {B:Nat} {w:World} {g:List Value} {x:Rg} (h:IsGo B w g x):IsG w g x:=by
 obtain⟨pa,pc,h1,h2,h3,h4,h5⟩:=h;obtain⟨a,cap,e,ht⟩:=txs_own2 (ks:=pagesL x) (by rw[pagesL_length];exact h2);rw[pagesL_length] at e ht;cases e;refine⟨pa,pc,none,0,by rw[h1,h3];rfl,ht,?_,h4,by rw[h3];simp,h5⟩;rw[h3];exact⟨rfl,Nat.le_refl _,by unfold maxLen;simp,fun _=>rfl,.inl rfl⟩
theorem own_apart_types {w:World} {b1 b2:Nat} {e1 e2:TypeId} {s1 s2:Nat} {v1 v2:Value} {n1 n2:Nat} {xs ys:List Value} (h1:w.ownsRow b1 e1 s1 v1 n1 xs) (h2:w.ownsRow b2 e2 s2 v2 n2 ys) (hne:e1≠e2):∀k,v1.ownBlock=some k→v2.ownBlock≠some k:=by
 intro k hk hk2
 rcases h1.2 with⟨e,_⟩|⟨g,cap,cur,e,_,hg,_⟩
 ·rw[e] at hk;cases hk
 ·rcases h2.2 with⟨e',_⟩|⟨g',cap',cur',e',_,hg',_⟩
  ·rw[e'] at hk2;cases hk2
  ·rw[e] at hk;rw[e'] at hk2
   cases hk;cases hk2;rw[hg] at hg';simp only[Option.some.injEq,Obj.cells.injEq] at hg';exact hne hg'.2.1
theorem own_grown {w w':World} {base:Nat} {e:TypeId} {size:Nat} {v:Value} {n:Nat} {xs:List Value} {row:Option Nat} (h:w.ownsRow base e size v n xs) (hg:w.grownBy w' row) (hne:∀k,v.ownBlock=some k→row≠some k):w'.ownsRow base e size v n xs:=by
 refine⟨h.1,h.2.imp id fun⟨g,cap,cur,e1,hg1,hh,r⟩=>⟨g,cap,cur,e1,hg1,?_,r⟩⟩;subst e1;rw[hg.block g (Array.getElem?_eq_some_iff.1 hh).1 (fun e=>hne g rfl e.symm)];exact hh
def GOwn (B:Nat) (wr:World) (v:Value) (dd:List Rg):Prop:=∃gs:List C4,gs.length=dd.length∧wr.ownsRow B 117 4 v dd.length (gs.flatMap (·.1))∧∀(i:Nat) (g:C4) (x:Rg),gs[i]? = some g→dd[i]? = some x→IsGo B wr g.1 x
theorem GOwn.nil (B:Nat) (w:World):GOwn B w (.slice none 0 0) []:=⟨[],rfl,World.ownsRow_nil _ _ _ _,fun i g x h=>by simp at h⟩
theorem GOwn.below {B:Nat} {w w':World} {v:Value} {dd:List Rg} (h:GOwn B w v dd) (hb:Below w.heap.size w w'):GOwn B w' v dd:=by
 obtain⟨gs,h1,h2,h3⟩:=h;refine⟨gs,h1,own_step h2 hb,fun i g x hg hx=>?_⟩;obtain⟨pa,pc,e1,e2,e3⟩:=h3 i g x hg hx;exact⟨pa,pc,e1,own_step e2 hb,e3⟩
theorem GOwn.gs {B:Nat} {w:World} {v:Value} {dd:List Rg} (h:GOwn B w v dd):∃a cap,v=.slice a dd.length cap∧Gs w a dd.length cap dd:=by
 obtain⟨gs,h1,h2,h3⟩:=h;obtain⟨a,cap,e,ht⟩:=TabR.of_own (fun z:C4=>z.1) (fun z=>z.2.1) (R:=fun cs (z:C4)=>cs=z.1) (fun _=>rfl) (l:=gs) (by rw[h1];exact h2);rw[h1] at e ht;exact⟨a,cap,e,rfl,gs,ht,fun i g x hg hx=>(h3 i g x hg hx).isG⟩
theorem own_agreeK {w W:World} {B:Nat} {e:TypeId} {size:Nat} {v:Value} {n:Nat} {xs:List Value} (h:w.ownsRow B e size v n xs) (hA:Agree (From (fun _=>False) B) w W):W.ownsRow B e size v n xs:=
 ⟨h.1,h.2.imp id fun⟨g,cap,cur,e1,hg1,hh,r⟩=>⟨g,cap,cur,e1,hg1,hA.2 g _ (.inr hg1) hh,r⟩⟩
theorem GOwn.gsK {B:Nat} {w:World} {v:Value} {dd:List Rg} (h:GOwn B w v dd):∃a cap,v=.slice a dd.length cap∧GsK (From (fun _=>False) B) w a dd.length cap dd:=by
 obtain⟨gs,h1,h2,h3⟩:=h;obtain⟨a,cap,e,_⟩:=TabR.of_own (fun z:C4=>z.1) (fun z=>z.2.1) (R:=fun cs (z:C4)=>cs=z.1) (fun _=>rfl) (l:=gs) (by rw[h1];exact h2);rw[h1] at e;refine⟨a,cap,e,rfl,gs,fun W hW=>?_,fun i g x hg hx W hW=>?_⟩
 ·obtain⟨a',cap',e',ht⟩:=TabR.of_own (fun z:C4=>z.1) (fun z=>z.2.1) (R:=fun cs (z:C4)=>cs=z.1) (fun _=>rfl) (l:=gs) (by rw[h1];exact own_agreeK h2 hW)
  rw[h1] at e' ht;rw[e] at e';cases e';exact ht
 ·obtain⟨pa,pc,k1,k2,k3⟩:=h3 i g x hg hx
  exact IsGo.isG (B:=B) ⟨pa,pc,k1,own_agreeK k2 hW,k3⟩
theorem GOwn.push {w:World} {B:Nat} {v:Value} {dd:List Rg} (h:GOwn B w v dd) (hdd:dd.length≤1000) (hB:B≤w.heap.size) (g:C4) (x:Rg) (hg:IsGo B w g.1 x) :
 ∃v' w',(Builtin.append_ #[36,36] 36 #[v,.slice (some ⟨w.heap.size,0,none⟩) 1 1]).run Tryz.prog (w.alloc (.cells g.1.toArray 117))=.ok v' w'∧GOwn B w' v' (dd++[x])∧w.grownBy w' v.ownBlock∧∀k,v.ownBlock=some k→B≤k:=by
 obtain⟨gs,h1,h2,h3⟩:=h;obtain⟨i0,hi0,hz0,hz1,hz2⟩:=info_parts info_G;obtain⟨v',w',hr,ho,hgr,_⟩:=run_append_new (P:=Tryz.prog) (w:=w) B 36 117 i0 _ 4 64 Tryz.underlying36 hi0 hz0 hz1 hz2 rfl (by decide) h2 g.1.toArray (by simp[g.2.1]) (fun u hu=>g.2.2 u (by simpa using hu)) (by unfold maxLen;omega) (by omega) hB;have hge:=own_ge h2;have keep:∀(g:List Value) (x:Rg),IsGo B w g x→IsGo B w' g x:=by
  rintro g x ⟨pa,pc,e1,e2,e3⟩;exact⟨pa,pc,e1,own_grown e2 hgr (own_apart_types e2 h2 (by decide)),e3⟩
 refine⟨v',w',hr,⟨gs++[g],by simp[h1],?_,fun i g' x' hg' hx'=>?_⟩,hgr,hge⟩
 ·rw[List.flatMap_append,List.length_append]
  simpa using ho
 ·by_cases hi:i<gs.length
  ·rw[List.getElem?_append_left hi] at hg'
   rw[List.getElem?_append_left (by omega)] at hx';exact keep _ _ (h3 i g' x' hg' hx')
  ·have hil:i=gs.length:=by
    have:=(List.getElem?_eq_some_iff.1 hg').1;simp at this;omega
   subst hil;rw[List.getElem?_append_right (Nat.le_refl _),Nat.sub_self] at hg';rw[h1,List.getElem?_append_right (Nat.le_refl _),Nat.sub_self] at hx';simp at hg' hx';subst hg' hx';exact keep _ _ hg
open Go.RowKit
def RNewPost (w:World) (l:List Int) (e:Ending) (w':World):Prop:=
 Below w.heap.size w w'∧(if newOk l then ∃a cap,e=.returned (.tuple #[.slice a l.length cap,.int .i64 0])∧GsK (From (fun _=>False) w.heap.size) w' a l.length cap (newD l) else e=.returned (.tuple #[.slice none 0 0,.int .i64 1]))
theorem rnewPost_bad {w w':World} {l:List Int} (h:newOk l=false) (hb:Below w.heap.size w w'):RNewPost w l (.returned (.tuple #[.slice none 0 0,.int .i64 1])) w':=⟨hb,by rw[h];rfl⟩
def zstr:Value:=strV (List.replicate 128 0)
def NewIn (gb:Nat) (w0:World) (k:Nat) (wx:World):Prop:=∃v,wx.heap[gb]? = some (.cells #[v,.slice none 0 0,.int .i64 (-1),.bool false] 117 (0,0))∧wx.ownsRow (gb+1) 9 1 v k (List.replicate k zstr)∧Below gb w0 wx∧gb<wx.heap.size
theorem pagesL_new (n:Nat):(pagesL (Rg.new n)).map strV=List.replicate n zstr:=by
 unfold pagesL Rg.new;rw[List.map_map];apply List.ext_getElem
 ·simp
 ·intro i h1 h2
  simp[zstr,zpage]
theorem info_u8N:(Tryz.prog.info? 5).map (fun i=>(i.zero,i.size,i.bytes))=some (some (.int .u8 0),1,1):=by kernel_rfl
theorem new_page {gb k:Nat} {w0 wx:World} (hk:k≤1000) (h:NewIn gb w0 k wx):∃a c w1 a9 c9 w9,wx.cell? ⟨gb,0,none⟩=some (.slice a k c)∧w1.cell? ⟨gb,0,none⟩=some (.slice a k c)∧(w1.alloc (.cells #[zstr] 9)).cell? ⟨gb,0,none⟩=some (.slice a k c) ∧
 (Instr.makeSlice 42 (.int .i64 128) (.int .i64 128)).run Tryz.prog wx.drew=.ok (.slice (some ⟨wx.heap.size,0,none⟩) 128 128) w1 ∧
 (convert 42 9 (.slice (some ⟨wx.heap.size,0,none⟩) 128 128)).run Tryz.prog w1=.ok zstr w1 ∧
 (Builtin.append_ #[46,46] 46 #[.slice a k c,.slice (some ⟨w1.heap.size,0,none⟩) 1 1]).run Tryz.prog (w1.alloc (.cells #[zstr] 9))=.ok (.slice a9 (k+1) c9) w9 ∧
 w9.cell? ⟨gb,0,none⟩=some (.slice a k c)∧w9.frozen? ⟨gb,0,none⟩=false∧NewIn gb w0 (k+1) (w9.setCell ⟨gb,0,none⟩ (.slice a9 (k+1) c9)):=by
 obtain⟨v,h1,h2,h3,h4⟩:=h;obtain⟨i0,hi,hz0,hz1,hz2⟩:=info_parts info_u8N;obtain⟨k0,hk0,hx0,hx1,hx2⟩:=info_parts info_str2;have hd:wx.drew.heap=wx.heap:=rfl;obtain⟨w1,hm,ho1,hg1⟩:=run_makeSlice_full (P:=Tryz.prog) (w:=wx.drew) wx.heap.size 42 5 i0 _ 1 Tryz.underlying42 hi hz0 hz1 .i64 .i64 128 (by omega) (by rw[hz2];omega) (by unfold maxLen;omega) (Nat.le_refl _);have hb1:Below wx.heap.size wx w1:=((Below.refl wx.heap.size wx).drew).grown hg1 (Nat.le_refl _) (fun j e=>by cases e);have hbs:Bs w1 (some ⟨wx.heap.size,0,none⟩) 128 128 (List.replicate 128 0):=by
  have ho:w1.ownsRow wx.heap.size 5 1 (.slice (some ⟨wx.heap.size,0,none⟩) 128 128) 128 ((toI (List.replicate 128 0)).map (Value.int .u8)):=by
   have hmade:(madeCells (Value.int .u8 0).cells (128*1)).toList=List.replicate 128 (.int .u8 0):=made_list (.int .u8 0) 128;rw[hmade] at ho1;have e:((toI (List.replicate 128 0)).map (Value.int .u8))=List.replicate 128 (.int .u8 0):=by simp[toI]
   rw[e];exact ho1
  obtain⟨a',c',e,hb⟩:=Bs.of_own ho;cases e;exact hb
 have hcv:=conv_string Tryz.underlying42 Tryz.underlying5 Tryz.underlying9 hbs;have h2':=own_step h2 hb1;have hs1:=hb1.size;obtain⟨v9,w9,hr9,ho9,hg9,_⟩:=run_append_new (P:=Tryz.prog) (w:=w1) (gb+1) 46 9 k0 _ 1 16 Tryz.underlying46 hk0 hx0 hx1 hx2 rfl (by decide) h2' #[zstr] rfl (by intro u hu;simp at hu;subst hu;rfl) (by unfold maxLen;omega) (by omega) (by omega);obtain⟨a,c,rfl,_⟩:=own_slice h2;obtain⟨a9,c9,rfl,_⟩:=own_slice ho9;have hge:=own_ge h2';have e1:w1.heap[gb]? = some (.cells #[.slice a k c,.slice none 0 0,.int .i64 (-1),.bool false] 117 (0,0)):=(hb1.block gb h4).trans h1;have e9:w9.heap[gb]? = some (.cells #[.slice a k c,.slice none 0 0,.int .i64 (-1),.bool false] 117 (0,0)):=(hg9.block gb (by omega) (fun e=>by have:=hge gb e.symm;omega)).trans e1;have c1:w1.cell? ⟨gb,0,none⟩=some (.slice a k c):=by simp[World.cell?,e1]
 have hb9:Below gb wx w9:=(hb1.mono (Nat.le_of_lt h4)).grown hg9 (by omega) (fun j e=>by have:=hge j e;omega);refine⟨a,c,w1,a9,c9,w9,by simp[World.cell?,h1],c1,(World.cell?_alloc_some w1 ⟨gb,0,none⟩ _ (by rw[c1];rfl)).trans c1,hm,hcv,hr9,by simp[World.cell?,e9],by simp[World.frozen?,e9],.slice a9 (k+1) c9,?_,?_,(h3.trans hb9).setCell (Nat.le_refl _) _,?_⟩
 ·rw[heap_setCell_at 0 _ e9];rfl
 ·have h5:=own_set ho9 ⟨gb,0,none⟩ (.slice a9 (k+1) c9) (fun e=>by have:=own_ge ho9 _ e;simp at this;omega)
  rw[List.replicate_succ'];exact h5
 ·have:=hg9.size
  simp[World.setCell];omega
theorem rnew_any {w:World} {a:Option Addr} {len cap:Nat} {l:List Int} (h:Row .i64 w a len cap l) (hlen:len≤1000) :
 Calls Tryz.prog 12 #[.slice a len cap] w (RNewPost w l):=by
 have hl:=h.1;have HROW:=Hd h;have HL:=Hd hl;obtain⟨_,_,_,_,hcells⟩:=h;have HC:=Hd hcells;clear hl hcells;go_enter Tryz.func12,Tryz.ntmps12;go_wp2_with fail
 go_loopw [4,5] (fun s4 s wr=>∃(i:Nat),i≤len∧s=.int .i64 i∧GOwn w.heap.size wr s4 (newD (l.take i))∧Below w.heap.size w wr∧(l.take i).all (fun n=>decide (1≤n) && decide (n≤1000))=true) (fun _ s _=>len-(intOf s).toNat)
 case atStart=>exact⟨0,Nat.zero_le _,rfl,GOwn.nil _ _,Below.refl _ _,rfl⟩
 case round=>
  obtain⟨i,hi,rfl,hown,hb,hall⟩:=hrel;obtain⟨wB,rfl⟩:∃wB,wB=wr:=⟨_,rfl⟩
  by_cases hlt:i<len
  ·obtain⟨b,off,rfl,hbl,hc⟩:=HC.out.resolve_left (by omega)
   have hkl:i<l.length:=by have:=HL.out;omega
   obtain⟨n,hn⟩:∃n,l[i]? = some n:=⟨_,List.getElem?_eq_getElem hkl⟩
   have hts:l.take (i+1)=l.take i++[n]:=by rw[List.take_succ_eq_append_getElem hkl,(List.getElem?_eq_some_iff.1 hn).2]
   have c1:wB.cell? ⟨b,off+i,none⟩=some (.int .i64 n):=by
    rw[hb.cell (p:=⟨b,off+i,none⟩) hbl,hc i hlt,hn];rfl
   have cN:∀W,Below w.heap.size w W→W.cell? ⟨b,off+i,none⟩=some (.int .i64 n):=fun W hW=>by
    rw[hW.cell (p:=⟨b,off+i,none⟩) hbl,hc i hlt,hn];rfl
   by_cases hgood:1≤n∧n≤1000
   ·obtain⟨m,rfl⟩:=Int.eq_ofNat_of_zero_le (show 0≤n by omega)
    have e0:decide ((m:Int)<1)=false:=by simp;omega
    have e1:decide ((1000:Int)<m)=false:=by simp;omega
    have e2:decide (m<1)=false:=by simp;omega
    have e3:decide (1000<m)=false:=by simp;omega
    have hm1:m≤1000:=by omega
    have HALL:Hid ((l.take (i+1)).all (fun n=>decide (1≤n) && decide (n≤1000))=true):=Hd (by rw[hts,List.all_append,hall];simp;omega);have HND:Hid (newD (l.take (i+1))=newD (l.take i)++[Rg.new m]):=Hd (by rw[hts];simp[newD]);have HNL:Hid ((newD (l.take i)).length≤1000):=Hd (by have:=HL.out;simp[newD];omega);have hs0:=hb.size;have hbA:Below w.heap.size w (wB.alloc (.cells #[.slice none 0 0,.slice none 0 0,.int .i64 (-1),.bool false] 117)):=hb.alloc hs0 _;have hin:NewIn wB.heap.size wB 0 (wB.alloc (.cells #[.slice none 0 0,.slice none 0 0,.int .i64 (-1),.bool false] 117)):=⟨_,World.alloc_heap_new wB _,World.ownsRow_nil _ _ _ _,(Below.refl _ _).alloc (Nat.le_refl _) _,by simp⟩
    have HIN:=Hd hin;have HB:=Hd hb;have HO:=Hd hown;clear hin hbA hall hts hn hgood hkl hc hown hb;go_wp2_with fail
    go_loopw [7] (fun s7 wx=>∃(k:Nat),k≤m∧s7=.int .i64 k∧NewIn wB.heap.size wB k wx) (fun s _=>m-(intOf s).toNat)
    case atStart=>exact⟨0,Nat.zero_le _,rfl,HIN.out⟩
    case round=>
     clear HIN;obtain⟨k,hk,rfl,hin⟩:=hrel;have hbB:Below wB.heap.size wB wr:=by obtain⟨_,_,_,h3,_⟩:=hin;exact h3
     have hbx:Below w.heap.size w wr:=below_then HB.out hbB
     by_cases hltk:k<m
     ·have d4:decide ((k:Int)<m)=true:=by simp;omega
      obtain⟨a4,c4,w1,a9,c9,w9,f0,f1,f2,hmk,hcv,hr9,f3,f4,hin2⟩:=new_page (by omega) hin;have cx:=cN _ hbx;have f0d:wr.drew.cell? ⟨wB.heap.size,0,none⟩=some (.slice a4 k c4):=f0;have ld0:(Instr.loadAt 46 (.pointer (some ⟨wB.heap.size,0,none⟩))).run Tryz.prog wr.drew=.ok (.slice a4 k c4) wr.drew:=by go_simp
      have ld1:(Instr.loadAt 46 (.pointer (some ⟨wB.heap.size,0,none⟩))).run Tryz.prog w1=.ok (.slice a4 k c4) w1:=by go_simp
      have ld2:(Instr.loadAt 46 (.pointer (some ⟨wB.heap.size,0,none⟩))).run Tryz.prog (w1.alloc (.cells #[zstr] 9))=.ok (.slice a4 k c4) (w1.alloc (.cells #[zstr] 9)):=by go_simp
      have bs1:(Instr.buildSlice 46 1 #[(0,zstr)]).run Tryz.prog w1=.ok (.slice (some ⟨w1.heap.size,0,none⟩) 1 1) (w1.alloc (.cells #[zstr] 9)):=by unfold zstr strV;go_simp
      have st1:(Instr.storeAt 46 (.pointer (some ⟨wB.heap.size,0,none⟩)) (.slice a9 (k+1) c9)).run Tryz.prog w9=.ok () (w9.setCell ⟨wB.heap.size,0,none⟩ (.slice a9 (k+1) c9)):=by go_simp
      have HIN2:=Hd hin2;clear hin hin2 hbx hbB;go_wp2_with fail;refine wp_region_noPanic ?_;refine wp_region_held_drew (S:=(fun _=>True)) (by kernel_rfl) (by trivial) (fun hHeld=>?_);refine tks [0] ?_;refine rdy2 1 2 (fun K hK=>?_) (fun K hK=>?_)
      ·refine step_load_run rfl _ _ rfl rfl (by first|exact ld0|exact ld1|exact ld2) ?_
       refine bkw hK (by trivial) (fun hHeld=>?_);clear hK K;refine rdy 2 (fun K hK=>?_);refine step_make_run rfl _ _ _ rfl rfl rfl hmk ?_;exact q5ccb74
      ·refine step_make_run rfl _ _ _ rfl rfl rfl hmk ?_
       refine bkw hK (by trivial) (fun hHeld=>?_);clear hK K;refine rdy2 1 3 (fun K hK=>?_) (fun K hK=>?_)
       ·refine step_load_run rfl _ _ rfl rfl (by first|exact ld0|exact ld1|exact ld2) ?_
        exact q5ccb74
       ·refine step_convert_run rfl _ _ _ rfl rfl hcv ?_
        refine bkw hK (by trivial) (fun hHeld=>?_);clear hK K;refine rdy2 1 4 (fun K hK=>?_) (fun K hK=>?_)
        ·refine step_load_run rfl _ _ rfl rfl (by first|exact ld0|exact ld1|exact ld2) ?_
         refine bkw hK (by trivial) (fun hHeld=>?_);clear hK K;refine rdy 4 (fun K hK=>?_);refine step_buildSlice_one rfl _ _ rfl rfl bs1 ?_;exact q299ef4
        ·refine step_buildSlice_one rfl _ _ rfl rfl bs1 ?_
         refine bkw hK (by trivial) (fun hHeld=>?_);clear hK K;refine rdy 1 (fun K hK=>?_);refine step_load_run rfl _ _ rfl rfl (by first|exact ld0|exact ld1|exact ld2) ?_;exact q299ef4
     ·obtain rfl:k=m:=by omega
      have d4:decide ((k:Int)<k)=false:=by simp
      obtain⟨v,h1,h2,h3,h4⟩:=hin;obtain⟨a4,c4,rfl,_⟩:=own_slice h2;have cx:=cN _ hbx;have k0:wr.cell? ⟨wB.heap.size,0,none⟩=some (.slice a4 k c4):=by simp[World.cell?,h1]
      have k1:wr.cell? ⟨wB.heap.size,1,none⟩=some (.slice none 0 0):=by simp[World.cell?,h1]
      have k2:wr.cell? ⟨wB.heap.size,2,none⟩=some (.int .i64 (-1)):=by simp[World.cell?,h1]
      have k3:wr.cell? ⟨wB.heap.size,3,none⟩=some (.bool false):=by simp[World.cell?,h1]
      have hgo:IsGo w.heap.size wr [.slice a4 k c4,.slice none 0 0,.int .i64 (-1),.bool false] (Rg.new k):=by
       refine⟨a4,c4,rfl,?_,rfl,hm1,by show(-1:Int) ≤ -1;omega,by show(-1:Int)≤_;omega⟩;rw[pagesL_new];exact⟨h2.1,h2.2.imp id fun⟨g,cap,cur,e,hg,r⟩=>⟨g,cap,cur,e,by omega,r⟩⟩
      have hG:=HO.out.below hbB;obtain⟨v9,w9,hr9,hG9,hg9,hge9⟩:=hG.push HNL.out hbx.size (⟨[.slice a4 k c4,.slice none 0 0,.int .i64 (-1),.bool false],rfl,by
       intro u hu;simp only[List.mem_cons,List.not_mem_nil,or_false] at hu
       rcases hu with rfl|rfl|rfl|rfl<;>rfl⟩:C4) (Rg.new k) hgo
      rw[←HND.out] at hG9;obtain⟨a8,c8,e8,_⟩:=hG.gs;have hr9:(Builtin.append_ #[36,36] 36 #[u4,.slice (some ⟨wr.heap.size,0,none⟩) 1 1]).run Tryz.prog (wr.alloc (.cells #[.slice a4 k c4,.slice none 0 0,.int .i64 (-1),.bool false] 117))=.ok v9 w9:=hr9;have HG9:=Hd hG9;have HB9:=Hd (hbx.grown hg9 hbx.size hge9);clear h1 h2 h3 h4 hgo hG hg9 hge9 hG9 hbx hbB e8
      go_wp2_with (at_builtin;refine wpList_append_run rfl _ _ _ _ rfl rfl rfl hr9 ?_)
      go_roundw
      case rel=>exact⟨i+1,hlt,by go_num,HG9.out,HB9.out,HALL.out⟩
      case measure=>simp[intOf];omega
   ·have hbad:newOk l=false:=by
     exact qbf2ac7
    have HBD:=Hd (rnewPost_bad hbad hb)
    by_cases g1:n<1
    ·have e0:decide (n<1)=true:=by simpa using g1
     clear hown hb hall hts hn hgood hkl hc hbad;go_wp2_with fail
     go_ret2
     exact HBD.out
    ·have e0:decide (n<1)=false:=by simpa using g1
     have e1:decide (1000<n)=true:=by simp;omega
     clear hown hb hall hts hn hgood hkl hc hbad;go_wp2_with fail
     go_ret2
     exact HBD.out
  ·obtain rfl:i=len:=by omega
   have htl:l.take i=l:=List.take_of_length_le (by rw[HL.out];exact Nat.le_refl _);rw[htl] at hown hall
   by_cases h1:i<1
   ·have d0:decide (i<1)=true:=by simpa using h1
    have d0':decide ((i:Int)<1)=true:=by simp;omega
    have HBD:=Hd (rnewPost_bad (w:=w) (w':=wB) (l:=l) (by unfold newOk;have:=HL.out;rw[show decide (1≤l.length)=false from decide_eq_false (by omega)];rfl) hb);clear hown hb hall htl;go_wp2_with fail
    go_ret2
    exact HBD.out
   ·have d0:decide (i<1)=false:=by simpa using h1
    have d0':decide ((i:Int)<1)=false:=by simp;omega
    by_cases h64:64<i
    ·have d1:decide (64<i)=true:=by simpa using h64
     have d1':decide ((64:Int)<i)=true:=by simp;omega
     have HBD:=Hd (rnewPost_bad (w:=w) (w':=wB) (l:=l) (by unfold newOk;have:=HL.out;rw[show decide (l.length≤64)=false from decide_eq_false (by omega)];simp) hb);clear hown hb hall htl;go_wp2_with fail
     go_ret2
     exact HBD.out
    ·have d1:decide (64<i)=false:=by simpa using h64
     have d1':decide ((64:Int)<i)=false:=by simp;omega
     obtain⟨ax,cx,ex,hgs⟩:=hown.gsK;have hnl:(newD l).length=i:=by rw[←HL.out];simp[newD]
     rw[hnl] at ex hgs;subst ex;have END:RNewPost w l (.returned (.tuple #[.slice ax i cx,.int .i64 0])) wB:=by
      refine⟨hb,?_⟩;rw[if_pos (by unfold newOk;have:=HL.out;rw[hall];simp;omega)];exact⟨ax,cx,by rw[HL.out],by rw[HL.out];exact hgs⟩
     have END:=Hd END;clear hown hb hall htl hgs hnl;go_wp2_with fail
     go_ret2
     exact END.out
end Go.Proofs.YtpghlmcoajaiiaaGreatDoor
