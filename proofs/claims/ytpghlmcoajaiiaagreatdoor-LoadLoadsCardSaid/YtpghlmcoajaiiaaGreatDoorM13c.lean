/- What follows of it. -/
import Derived.Test.YtpghlmcoajaiiaaGreatDoorM13b
set_option maxHeartbeats 20000000
set_option maxRecDepth 100000
namespace Go.Proofs.YtpghlmcoajaiiaaGreatDoor
open Go.RowKit
theorem rnode_branch {n:Nat}
 (IH:∀{w:World} {cs:List Value} {t:Tr} {F:Nat→Prop},RNodeOn F n w cs t→Bnd n t→∀(lo hi:List UInt8),lo.length≤1000→hi.length≤1000 →
  Calls Tryz.prog 103 #[.agg cs.toArray,.string (strOf lo),.string (strOf hi),.bool false] w fun e w'=>e=.returned (.int .i64 (depI (depthT n t lo hi false)))∧Below w.heap.size w w')
 {F:Nat→Prop} {w:World} {cs:List Value} {p:Int} {l:List (List UInt8×Tr)} (h:RNodeOn F (n+1) w cs (.node p l)) (hb:Bnd (n+1) (.node p l)) (hn:n≤1000) (lo hi:List UInt8) (root:Bool) (hlo:lo.length≤1000) (hhi:hi.length≤1000) :
 Calls Tryz.prog 103 #[.agg cs.toArray,.string (strOf lo),.string (strOf hi),.bool root] w fun e w'=>e=.returned (.int .i64 (depI (depthT (n+1) (.node p l) lo hi root)))∧Below w.heap.size w w':=by
 have CS:=fun W (hW:Below w.heap.size w W)=>rsizes_any (h.below hW) hb
 have hSm:=hb.small;obtain⟨a,c,rfl,h1,_⟩:=h.at;obtain⟨g1,g2⟩:=hb;obtain⟨e1,e2,e3⟩:=h1.lens;obtain⟨m,hml⟩:∃m,cntT (.node p l)=m:=⟨_,rfl⟩
 have hlm:l.length=m:=hml;obtain⟨R,hR⟩:∃R,depthT (n+1) (.node p l) lo hi root=R:=⟨_,rfl⟩
 obtain⟨S,hS⟩:∃S,sizesT (.node p l)=S:=⟨_,rfl⟩
 have hsz:sizeB root (.node p l)=(decide (2≤m) && (decide (sumI S≤122) && (root || !decide (sumI S<30)))):=by
  unfold sizeB sumT lowT;rw[hml,←hS];rfl
 obtain⟨sm,hsm⟩:∃x,sumI S=x:=⟨_,rfl⟩
 rw[hS] at CS hSm;rw[hsm] at hsz;have hd:=depthT_node n p l lo hi root;rw[hR] at hd;have hfit:fitT lo hi (.node p l)=fitTo lo hi false (keysOf l) m:=by rw[←hlm];rfl
 obtain⟨R2,hR2⟩:∃R2,depK (fun t lo hi=>depthT n t lo hi false) lo hi 0 0 l=R2:=⟨_,rfl⟩
 rw[hR2] at hd;generalize sizeB root (.node p l)=SZ at *;generalize fitT lo hi (.node p l)=FT at *;rw[hR,show(Tr.node p l).page=p from rfl,show(Tr.node p l).isLeaf=false from rfl];rw[hml] at h1 e1 e2 CS ⊢;have HV:=Hd h1;have HSm:=Hd hSm;have HSM:=Hd hsm;have HSZ:=Hd hsz;have HD:=Hd hd;have HFT:=Hd hfit;have HL:=Hd hlm;have HG:=Hd g2;have hm9:m≤1000:=by omega
 have HR2:=Hd hR2;clear hR2;have HB0:=Hd ((Below.refl _ _).alloc (Nat.le_refl _) _:Below w.heap.size w (w.alloc (.cells #[.int .i64 p,.bool false,.slice a m c] 27)));have HX0:=Hd ((Boxes.nil w).alloc #[.int .i64 p,.bool false,.slice a m c] 27 (b:=w.heap.size) rfl);obtain⟨W1,hW1⟩:∃x,w.alloc (.cells #[.int .i64 p,.bool false,.slice a m c] 27)=x:=⟨_,rfl⟩
 rw[hW1] at HB0 HX0;have CS1:=CS _ HB0.out;have CS2:∀W,Below W1.heap.size W1 W→Calls Tryz.prog 126 #[.agg #[.int .i64 p,.bool false,.slice a m c]] W (SizesPost W S):=fun W hW=>CS W (below_via HB0.out hW)
 clear h h1 g1 g2 e1 hml hS hR hd hfit hsz hsm hSm hlm CS;have n0:=HX0.out.cell 0 0 rfl rfl;have n1:=HX0.out.cell 0 1 rfl rfl;have n2:=HX0.out.cell 0 2 rfl rfl;show Calls _ _ #[.agg #[.int .i64 p,.bool false,.slice a m c],.string (strOf lo),.string (strOf hi),.bool root] _ _;have zm:=Mk.i 140668;exact q44d6a3
end Go.Proofs.YtpghlmcoajaiiaaGreatDoor
