/- Texts that other texts of this claim lean on, one behind the other. -/
import Derived.Test.YtpghlmcoajaiiaaGreatDoorM1
import Derived.Test.YtpghlmcoajaiiaaGreatDoorM9
import Derived.Test.YtpghlmcoajaiiaaGreatDoorM5
import Derived.Test.YtpghlmcoajaiiaaGreatDoorM2
import Derived.Test.YtpghlmcoajaiiaaGreatDoorM3
import Derived.Test.YtpghlmcoajaiiaaGreatDoorM4
import Derived.IntWalk
import Derived.Deep.DeepCutAuto
import Derived.Test.YtpghlmcoajaiiaaGreatDoorM8
import Derived.Defers
import Derived.Recover
import Derived.Deep.QuietTactic
import Derived.BigQuiet
import Derived.RegionTactic
import Derived.Deep.RegionHeld3
import Derived.Test.YtpghlmcoajaiiaaGreatDoorM6
import Derived.Deep.CutBlock
set_option maxHeartbeats 20000000
set_option maxRecDepth 100000
namespace Go.Proofs.YtpghlmcoajaiiaaGreatDoor
open Go.RowKit
def TakeVal (o:Option Vv) (u:Value):Prop:=
 match o with
 | some v=>u=.iface 209 (vv v)
 | none=>∃x:Int,u=.iface 32 (.int .i64 x)
def TakePost (w:World) (t:Nat) (o:Option Vv) (e:Ending) (w':World):Prop:=∃u s',e=.returned u∧TakeVal o u∧w.grownBy w' (some t)∧Tk w' t s'
theorem grown_step {a b c:World} {t:Nat} (h:a.grownBy b (some t)) (hb:Below b.heap.size b c):a.grownBy c (some t):=grown_trans h (grown_below hb (some t))
theorem takeB_any (t:Nat) (s:TSt) (w:World) (h:Tk w t s) (hreach:s.l.length≤140737488351232) :
 Calls Tryz.prog 239 #[.agg #[],.pointer (some ⟨t,0,none⟩)] w (TakePost w t (decV false s)):=by
 have hB:=below_one w (.cells #[] 315);have h1:=h.below (Nat.le_refl _) hB;have hC:=tNum_any t s 2 _ h1 hreach;have hdec:decV false s=if tDone (tNum s 2).2=0 then some ⟨[],false,0,((tNum s 2).1:Int)⟩ else none:=rfl
 rw[hdec];have hlt:(tNum s 2).1<65536:=tNum_lt s 2;obtain⟨n,s1,hs⟩:∃n s1,tNum s 2=(n,s1):=⟨_,_,rfl⟩
 rw[hs] at hC hlt ⊢;clear hs hdec;have hn:n<65536:=hlt;clear hlt;dsimp only at hC ⊢;have D:=fun W (h:Tk W t s1)=>tDone_any t s1 W h
 generalize tDone s1=d at *;have hn8:((n:Nat):Int)<65536:=by omega
 obtain⟨o,ho⟩:∃o,o=(if d=0 then some (⟨[],false,0,(n:Int)⟩:Vv) else none):=⟨_,rfl⟩
 rw[←ho];have HO:=Hd ho;clear ho;go_enter Tryz.func239,Tryz.ntmps239;go_wp2_with fail;refine hC.mono ?_;rintro e w2 ⟨v2,rfl,rfl,hg2,htk2⟩;have hg:=grown_trans (grown_below hB (some t)) hg2;go_wp2_with fail;have hB3:=below_one w2 (.cells #[.string ⟨#[]⟩,.bool false,.int .i64 0,.int .i64 (n:Int)] 209);have BX:=(Boxes.nil w2).alloc #[.string ⟨#[]⟩,.bool false,.int .i64 0,.int .i64 (n:Int)] 209 rfl;have htk3:=htk2.below (Nat.le_refl _) hB3;have hg3:=grown_step hg hB3;refine(D _ htk3).mono ?_;rintro e w4 ⟨rfl,rfl⟩
 by_cases hd:d=0
 ·subst hd
  have hov:o=some ⟨[],false,0,(n:Int)⟩:=HO.out;go_wp2_with fail;go_ret;exact⟨_,s1,rfl,by rw[hov];rfl,hg3,htk3⟩
 ·have hd2:(d != 0)=true:=by simpa using hd
  have hov:o=none:=by rw[HO.out,if_neg hd]
  have HV:=Hd hov;clear hov;go_wp2_with fail;go_ret;exact⟨_,s1,rfl,by rw[HV.out];exact⟨d,rfl⟩,hg3,htk3⟩
theorem Tk.boxed {w w':World} {t b:Nat} {s:TSt} {vs:List Value} {l:List (Nat×List Value)} (h:Tk w t s) (hx:Boxes w l) (n:Nat) (hn:l[n]? = some (b,vs)) (hv:∀(i:Nat) (x:Int),vs[i]? ≠ some (.int .u8 x)) (hne:t≠b) (hg:w.grownBy w' (some b)):Tk w' t s:=by
 refine h.grown hg (fun e=>by cases e;exact hne rfl) (fun a k m b' off hc hl ha hb=>?_);cases hb;obtain⟨a2,cap2,q1,q2⟩:=h;rw[hc] at q1;cases q1;obtain⟨b3,off3,e1,_,hcell⟩:=q2.cell (k:=0) (by omega);rw[ha] at e1;cases e1;have h0:=hcell 0 (by omega);obtain⟨ty,hty⟩:=hx (b,vs) (List.mem_of_getElem? hn);simp only[World.cell?,hty,Nat.add_zero] at h0;exact hv off _ (by simpa using h0)
theorem grown_new {a b:World} {t:Nat} (h:a.grownBy b (some t)) (p:Addr) (hp:a.heap.size≤p.block) (u:Value):a.grownBy (b.setCell p u) (some t):=
 ⟨h.os,h.tape,h.output,by simpa[World.setCell] using h.size,fun i hi hne=>(Below.heap_setCell b p u i (by intro e;omega)).trans (h.block i hi hne)⟩
theorem decV_leaf (s:TSt):decV true s=if (tNum s 1).1=0 then (if tDone (tRest (tNum s 1).2).2=0 then some ⟨(tRest (tNum s 1).2).1,false,0,0⟩ else none)
 else if (tNum s 1).1=1 then (if tDone (tNum (tNum (tNum s 1).2 2).2 2).2=0 then some ⟨[],true,((tNum (tNum s 1).2 2).1:Int),((tNum (tNum (tNum s 1).2 2).2 2).1:Int)⟩ else none)
 else none:=rfl
theorem takeL_near (t:Nat) (s:TSt) (w:World) (h:Tk w t s) (hreach:s.l.length≤140737488351232) (h0:(tNum s 1).1=0) :
 Calls Tryz.prog 232 #[.agg #[],.pointer (some ⟨t,0,none⟩)] w (TakePost w t (decV true s)):=by
 have htl:=h.lt;have hB:=below_one w (.cells #[] 273);have hB2:=below_two' w (.cells #[] 273) (.cells #[.string ⟨#[]⟩,.bool false,.int .i64 0,.int .i64 0] 209);have h1:=h.below (Nat.le_refl _) hB2;have hC:=tNum_any t s 1 _ h1 hreach;have hl1:=tNum_len s 1;rw[decV_leaf,if_pos h0];rw[h0] at hC;generalize (tNum s 1).2=s1 at *;have R:=fun W (h:Tk W t s1)=>tRest_any t s1 W h (by omega)
 generalize (tRest s1).1=r at *;generalize (tRest s1).2=s2 at *;have D:=fun W (h:Tk W t s2)=>tDone_any t s2 W h
 generalize tDone s2=d at *;obtain⟨o,ho⟩:∃o,o=(if d=0 then some (⟨r,false,0,0⟩:Vv) else none):=⟨_,rfl⟩
 rw[←ho];have HO:=Hd ho;have BX:=((Boxes.nil w).alloc #[] 273 rfl).alloc #[.string ⟨#[]⟩,.bool false,.int .i64 0,.int .i64 0] 209 (by simp:_=w.heap.size+1);clear ho h0 hl1;go_enter Tryz.func232,Tryz.ntmps232;go_wp2_with fail;refine hC.mono ?_;rintro e w2 ⟨v2,rfl,rfl,hg2,htk2⟩;have hne:∀p∈[(w.heap.size+1,([.string ⟨#[]⟩,.bool false,.int .i64 0,.int .i64 0]:List Value)),(w.heap.size,[])],(some t:Option Nat)≠some p.1:=by intro p hp;simp at hp;rcases hp with rfl|rfl<;>simp<;>omega
 have BX:=BX.grown hg2 hne;have hga:=grown_trans (grown_below hB2 (some t)) hg2;go_wp2_with fail;refine(R _ htk2).mono ?_;rintro e w3 ⟨v3,rfl,ho3,hg3,htk3⟩;obtain⟨a3,k3,rfl,hs3⟩:=Bs.of_own ho3;have BX:=BX.grown hg3 hne;have hgb:=grown_trans hga hg3;have hcv:=conv_string Tryz.underlying42 Tryz.underlying5 Tryz.underlying9 hs3;have z0:=BX.cell 0 0 rfl rfl;have y0:=BX.frozen 0 0 rfl;have htk4:=htk3.boxed BX 0 rfl (by intro i x;match i with|0=>simp|1=>simp|2=>simp|3=>simp|i+4=>simp) (by omega) (grown_setCell w3 ⟨w.heap.size+1,0,none⟩ (.string (strOf r)));have BY:=BX.put 0 (.string (strOf r)) (by intro p hp;simp at hp;subst hp;simp);go_wp2_with fail;have hgc:=grown_new hgb ⟨w.heap.size+1,0,none⟩ (by simp) (.string (strOf r));refine(D _ htk4).mono ?_;rintro e w4 ⟨rfl,rfl⟩;have g0:=BY.cell 0 0 rfl rfl;have g1:=BY.cell 0 1 rfl rfl;have g2:=BY.cell 0 2 rfl rfl;have g3:=BY.cell 0 3 rfl rfl;clear z0 y0 hcv hs3 ho3
 by_cases hd:d=0
 ·subst hd
  have HV:Hid (o=some ⟨r,false,0,0⟩):=Hd HO.out;go_wp2_with fail;go_ret;exact⟨_,s2,rfl,by rw[HV.out];rfl,hgc,htk4⟩
 ·have hd2:(d != 0)=true:=by simpa using hd
  have HV:Hid (o=none):=Hd (by rw[HO.out,if_neg hd]);go_wp2_with fail;go_ret;exact⟨_,s2,rfl,by rw[HV.out];exact⟨d,rfl⟩,hgc,htk4⟩
theorem takeL_bad (t:Nat) (s:TSt) (w:World) (h:Tk w t s) (hreach:s.l.length≤140737488351232) (h0:(tNum s 1).1≠0) (h1':(tNum s 1).1≠1) :
 Calls Tryz.prog 232 #[.agg #[],.pointer (some ⟨t,0,none⟩)] w (TakePost w t (decV true s)):=by
 have hB2:=below_two' w (.cells #[] 273) (.cells #[.string ⟨#[]⟩,.bool false,.int .i64 0,.int .i64 0] 209);have h1:=h.below (Nat.le_refl _) hB2;have hC:=tNum_any t s 1 _ h1 hreach;rw[decV_leaf,if_neg h0,if_neg h1'];generalize (tNum s 1).1=n at *;generalize (tNum s 1).2=s1 at *;have q0:((n:Int) == 0)=false:=by simp;omega
 have q1:((n:Int) == 1)=false:=by simp;omega
 have HB:=Hd hB2;clear h0 h1' hB2;go_enter Tryz.func232,Tryz.ntmps232;go_wp2_with fail;refine hC.mono ?_;rintro e w2 ⟨v2,rfl,rfl,hg2,htk2⟩;have hga:=grown_trans (grown_below HB.out (some t)) hg2;go_wp2_with fail;go_ret;exact⟨_,s1,rfl,⟨11,rfl⟩,hga,htk2⟩
theorem takeL_far (t:Nat) (s:TSt) (w:World) (h:Tk w t s) (hreach:s.l.length≤140737488351232) (h1':(tNum s 1).1=1) :
 Calls Tryz.prog 232 #[.agg #[],.pointer (some ⟨t,0,none⟩)] w (TakePost w t (decV true s)):=by
 have htl:=h.lt;have hB2:=below_two' w (.cells #[] 273) (.cells #[.string ⟨#[]⟩,.bool false,.int .i64 0,.int .i64 0] 209);have h1:=h.below (Nat.le_refl _) hB2;have hC:=tNum_any t s 1 _ h1 hreach;have hl1:=tNum_len s 1;rw[decV_leaf,if_neg (by rw[h1'];decide),if_pos h1'];rw[h1'] at hC;generalize (tNum s 1).2=s1 at *;have R:=fun W (h:Tk W t s1)=>tNum_any t s1 2 W h (by omega)
 have hl2:=tNum_len s1 2;have hn2:(tNum s1 2).1<65536:=tNum_lt s1 2;generalize (tNum s1 2).1=n2 at *;generalize (tNum s1 2).2=s2 at *;have R2:=fun W (h:Tk W t s2)=>tNum_any t s2 2 W h (by omega)
 have hn3:(tNum s2 2).1<65536:=tNum_lt s2 2;generalize (tNum s2 2).1=n3 at *;generalize (tNum s2 2).2=s3 at *;have D:=fun W (h:Tk W t s3)=>tDone_any t s3 W h
 generalize tDone s3=d at *;obtain⟨o,ho⟩:∃o,o=(if d=0 then some (⟨[],true,(n2:Int),(n3:Int)⟩:Vv) else none):=⟨_,rfl⟩
 rw[←ho];have HO:=Hd ho;have BX:=((Boxes.nil w).alloc #[] 273 rfl).alloc #[.string ⟨#[]⟩,.bool false,.int .i64 0,.int .i64 0] 209 (by simp:_=w.heap.size+1);have hc2:((n2:Nat):Int)<65536:=by omega
 have hc3:((n3:Nat):Int)<65536:=by omega
 have hq:∀p∈[(w.heap.size,([]:List Value))],p.1≠w.heap.size+1:=by intro p hp;simp at hp;subst hp;simp
 have key:∀(W:World) (S:TSt) (vs:List Value) (i:Nat) (u:Value),Boxes W [(w.heap.size+1,vs),(w.heap.size,[])]→Tk W t S→(∀(i:Nat) (x:Int),vs[i]? ≠ some (.int .u8 x))→w.grownBy W (some t)→Tk (W.setCell ⟨w.heap.size+1,i,none⟩ u) t S∧Boxes (W.setCell ⟨w.heap.size+1,i,none⟩ u) [(w.heap.size+1,vs.set i u),(w.heap.size,[])]∧w.grownBy (W.setCell ⟨w.heap.size+1,i,none⟩ u) (some t):=fun W S vs i u hb ht hv hg=>
  ⟨ht.boxed hb 0 rfl hv (by omega) (grown_setCell W ⟨w.heap.size+1,i,none⟩ u),hb.put i u hq,grown_new hg ⟨w.heap.size+1,i,none⟩ (by simp) u⟩
 have KEY:=Hd key;clear ho h1' hl1 hl2 hn2 hn3 hq key;go_enter Tryz.func232,Tryz.ntmps232;go_wp2_with fail;refine hC.mono ?_;rintro e w2 ⟨v2,rfl,rfl,hg2,htk2⟩;have hne:∀(vs:List Value),∀p∈[(w.heap.size+1,vs),(w.heap.size,[])],(some t:Option Nat)≠some p.1:=by intro vs p hp;simp at hp;rcases hp with rfl|rfl<;>simp<;>omega
 have BX:=BX.grown hg2 (hne _);have hga:=grown_trans (grown_below hB2 (some t)) hg2;have HNE:=Hd hne;clear hne;go_wp2_with fail;refine(R _ htk2).mono ?_;rintro e w3 ⟨v3,rfl,rfl,hg3,htk3⟩;have BX:=BX.grown hg3 (HNE.out _);have hgb:=grown_trans hga hg3;have z1:=BX.cell 0 1 rfl rfl;have y1:=BX.frozen 0 1 rfl;have z2:=BX.cell 0 2 rfl rfl;have y2:=BX.frozen 0 2 rfl;obtain⟨k1,k2,k3⟩:=KEY.out _ _ _ 1 (.bool true) BX htk3 (by intro i x;match i with|0=>simp|1=>simp|2=>simp|3=>simp|i+4=>simp) hgb;obtain⟨m1,m2,m3⟩:=KEY.out _ _ _ 2 (.int .i64 (n2:Int)) k2 k1 (by intro i x;match i with|0=>simp|1=>simp|2=>simp|3=>simp|i+4=>simp) k3;go_wp2_with fail;clear z1 y1 z2 y2 k1 k2 k3;refine(R2 _ m1).mono ?_;rintro e w4 ⟨v4,rfl,rfl,hg4,htk4⟩;have BX:=m2.grown hg4 (HNE.out _);have hgc:=grown_trans m3 hg4;have z3:=BX.cell 0 3 rfl rfl;have y3:=BX.frozen 0 3 rfl;obtain⟨p1,p2,p3⟩:=KEY.out _ _ _ 3 (.int .i64 (n3:Int)) BX htk4 (by intro i x;match i with|0=>simp|1=>simp|2=>simp|3=>simp|i+4=>simp) hgc;clear m1 m2 m3;go_wp2_with fail;refine(D _ p1).mono ?_;rintro e w5 ⟨rfl,rfl⟩;have g0:=p2.cell 0 0 rfl rfl;have g1:=p2.cell 0 1 rfl rfl;have g2:=p2.cell 0 2 rfl rfl;have g3:=p2.cell 0 3 rfl rfl;clear z3 y3
 by_cases hd:d=0
 ·subst hd
  have HV:Hid (o=some ⟨[],true,(n2:Int),(n3:Int)⟩):=Hd HO.out;go_wp2_with fail;go_ret;exact⟨_,s3,rfl,by rw[HV.out];rfl,p3,p1⟩
 ·have hd2:(d != 0)=true:=by simpa using hd
  have HV:Hid (o=none):=Hd (by rw[HO.out,if_neg hd]);go_wp2_with fail;go_ret;exact⟨_,s3,rfl,by rw[HV.out];exact⟨d,rfl⟩,p3,p1⟩
theorem takeL_any (t:Nat) (s:TSt) (w:World) (h:Tk w t s) (hreach:s.l.length≤140737488351232) :
 Calls Tryz.prog 232 #[.agg #[],.pointer (some ⟨t,0,none⟩)] w (TakePost w t (decV true s)):=by
 by_cases h0:(tNum s 1).1=0
 ·exact takeL_near t s w h hreach h0
 ·by_cases h1:(tNum s 1).1=1
  ·exact takeL_far t s w h hreach h1
  ·exact takeL_bad t s w h hreach h0 h1
theorem bytes_less:∀(x y:List UInt8),Op.bytesLess x y=decide (x<y)
 | [],[]=>by simp[Op.bytesLess]
 | _::_,[]=>by simp[Op.bytesLess]
 | [],_::_=>by simp[Op.bytesLess]
 | a::x,b::y=>by
  rw[Op.bytesLess,bytes_less x y];simp only[List.cons_lt_cons_iff]
  by_cases h1:a<b<;>by_cases h2:a=b<;>by_cases h3:x<y<;>simp[h1,h2,h3]
theorem cellN_len (leaf:Bool) (e:En):(cellN leaf e).length≤261+e.v.data.length:=by
 rw[cellN,List.length_append,textF_length,encV_length];cases leaf<;>cases e.v.far<;>simp<;>omega
theorem cellsN_lens (leaf:Bool) (M:Nat):∀l:List En,(∀e∈l,e.v.data.length≤M)→lens (cellsN leaf l)≤l.length*(261+M)
 | [],_=>by simp[cellsN,lens]
 | e::l,h=>by
  have ih:=cellsN_lens leaf M l (fun x hx=>h x (by simp[hx]));have h1:=cellN_len leaf e;have h2:=h e (by simp);have e1:lens (cellsN leaf (e::l))=(cellN leaf e).length+lens (cellsN leaf l):=by simp[cellsN,lens]
  rw[e1,List.length_cons,Nat.add_mul];omega
def SmE (l:List En):Prop:=∀e∈l,e.key.length≤1000000∧e.v.data.length≤1000000
theorem nodeB_step {leaf:Bool} {l:List En} {k:Nat} (hk:k<l.length) (h:stepN leaf l k=false):nodeB leaf l=false:=by
 have h1:upN leaf l (k+1)=false:=by rw[upN_succ,h,Bool.and_false]
 rw[nodeB,upN_mono leaf l h1 hk];rfl
theorem check_leaf (a:Option Addr) (len cap:Nat) (l:List En) (w:World) (h:NEnts w a len cap l) (hlen:len≤65536) (hd:SmE l) :
 Calls Tryz.prog 140 #[.agg #[.bool true,.slice a len cap]] w fun e w'=>e=.returned (.bool (nodeB true l))∧Below w.heap.size w w':=by
 have hB:=below_one w (.cells #[.bool true,.slice a len cap] 205);have BX:=(Boxes.nil w).alloc #[.bool true,.slice a len cap] 205 rfl;have SH:=fun W=>shapes_any W
 have KI:∀W,Calls Tryz.prog 174 #[.agg #[.bool true,.slice a len cap]] W fun e w'=>e=.returned (.int .u8 1)∧Below W.heap.size W w':=fun W=>kind_any true (.slice a len cap) W
 go_enter Tryz.func140,Tryz.ntmps140;have mccc3e7:=trivial;exact q13df47
theorem check_branch (a:Option Addr) (len cap:Nat) (l:List En) (w:World) (h:NEnts w a len cap l) (hlen:len≤65536) (hd:SmE l) :
 Calls Tryz.prog 140 #[.agg #[.bool false,.slice a len cap]] w fun e w'=>e=.returned (.bool (nodeB false l))∧Below w.heap.size w w':=by
 have hB:=below_one w (.cells #[.bool false,.slice a len cap] 205);have BX:=(Boxes.nil w).alloc #[.bool false,.slice a len cap] 205 rfl;have SH:=fun W=>shapes_any W
 have KI:∀W,Calls Tryz.prog 174 #[.agg #[.bool false,.slice a len cap]] W fun e w'=>e=.returned (.int .u8 2)∧Below W.heap.size W w':=fun W=>kind_any false (.slice a len cap) W
 go_enter Tryz.func140,Tryz.ntmps140;have m4b7859:=trivial;exact q1739d2
theorem check_any (leaf:Bool) (a:Option Addr) (len cap:Nat) (l:List En) (w:World) (h:NEnts w a len cap l) (hlen:len≤65536) (hd:SmE l) :
 Calls Tryz.prog 140 #[.agg #[.bool leaf,.slice a len cap]] w fun e w'=>e=.returned (.bool (nodeB leaf l))∧Below w.heap.size w w':=by
 cases leaf
 ·exact check_branch a len cap l w h hlen hd
 ·exact check_leaf a len cap l w h hlen hd
open Go.RowKit
theorem page_of_unp (b:List UInt8) (h:unpE b=0):b.length=128∧fits (unpK b) (unpL b)=true:=by
 have h0:=h;unfold unpE at h
 split at h
 ·simp at h
 ·rename_i h1
  split at h
  ·simp at h
  ·split at h
   ·rename_i h3
    simp only[unpB,Bool.and_eq_true,beq_iff_eq] at h3;have hk:unpK b=kindS b:=by rw[unpK,if_pos h0]
    have hl:unpL b=cutS b (min (numS b) 122):=by rw[unpL,if_pos h0]
    rw[hk,hl];exact⟨by omega,h3.2.1⟩
   ·simp at h
theorem unp_cell (b:List UInt8) (h:unpE b=0) (c:List UInt8) (hc:c∈unpL b):c.length≤128:=by
 have hl:=(page_of_unp b h).1;rw[unpL,if_pos h,cutS,List.mem_map] at hc;obtain⟨i,_,rfl⟩:=hc;rw[cellS,List.length_take,List.length_drop];omega
theorem unp_many (b:List UInt8):(unpL b).length≤122:=by
 unfold unpL;split
 ·rw[cutS_length];exact Nat.min_le_right _ _
 ·simp
theorem takeF_fst_len (s:TSt) (n:Nat):(takeF s n).1.length≤s.l.length:=by
 unfold takeF;split
 ·simp
 ·split
  ·simp
  ·simp;omega
theorem tText_fst_len (s:TSt):(tText s).1.length≤s.l.length:=by
 have h1:=takeF_fst_len (tNum s 1).2 (tNum s 1).1;have h2:=tNum_len s 1;simp only[tText];omega
theorem tText_len (s:TSt):(tText s).2.l.length≤s.l.length:=by
 have h1:=takeF_len (tNum s 1).2 (tNum s 1).1;have h2:=tNum_len s 1;simp only[tText];omega
theorem decE_small {leaf:Bool} {c:List UInt8} {e:En} (h:decE leaf c=some e):e.key.length≤c.length∧e.v.data.length≤c.length:=by
 rw[decE,Option.map_eq_some_iff] at h;obtain⟨v,hv,rfl⟩:=h;have h1:=tText_fst_len ⟨c,0⟩;have h2:=tText_len ⟨c,0⟩;refine⟨h1,?_⟩;have h3:=tNum_len (tText ⟨c,0⟩).2 1;have h4:(tRest (tNum (tText ⟨c,0⟩).2 1).2).1.length≤(tNum (tText ⟨c,0⟩).2 1).2.l.length:=takeF_fst_len _ _;unfold decV at hv
 repeat' (split at hv)
 all_goals first|(cases hv;done)|(have e:=Option.some.inj hv;subst e;simp only[List.length_nil] at *;omega)
theorem decL_small {leaf:Bool} {M:Nat}:∀{a:List (List UInt8)} {l:List En},decL leaf a=some l→(∀c∈a,c.length≤M)→∀e∈l,e.key.length≤M∧e.v.data.length≤M
 | [],l,h,_=>by cases h;intro e he;simp at he
 | c::r,l,h,hM=>by
  simp only[decL] at h;cases hc:decE leaf c with
  | none=>rw[hc] at h;cases h
  | some x=>
   cases hr:decL leaf r with
   | none=>rw[hc,hr] at h;cases h
   | some m=>
    rw[hc,hr] at h;cases h;intro e he
    rcases List.mem_cons.1 he with rfl|he
    ·have:=decE_small hc;have:=hM c (by simp);omega
    ·exact decL_small hr (fun c hc=>hM c (by simp[hc])) e he
def OwnEn (w:World) (base:Nat) (v:Value) (l:List En):Prop:=w.ownsRow base 211 5 v l.length (l.flatMap ecells)
theorem OwnEn.nil (w:World) (base:Nat):OwnEn w base (.slice none 0 0) []:=World.ownsRow_nil _ _ _ _
theorem OwnEn.below {w w':World} {base:Nat} {v:Value} {l:List En} {B:Nat} (h:OwnEn w base v l) (hB:w.heap.size≤B) (hb:Below B w w'):OwnEn w' base v l:=own_below h hB hb
theorem OwnEn.ents {w:World} {base:Nat} {v:Value} {l:List En} (h:OwnEn w base v l):∃a cap,v=.slice a l.length cap∧NEnts w a l.length cap l:=
 TabR.of_own ecells (fun _=>rfl) (fun _=>rfl) h
theorem info_entry:(Tryz.prog.info? 211).map (fun i=>(i.zero,i.size,i.bytes))=some (some (.agg #[.string ⟨#[]⟩,.string ⟨#[]⟩,.bool false,.int .i64 0,.int .i64 0]),5,56):=by kernel_rfl
theorem append_en {w:World} {base:Nat} {v:Value} {l:List En} (h:OwnEn w base v l) (e:En) (hl:l.length≤65536) (hbase:base≤w.heap.size) :
 ∃v' w',(Builtin.append_ #[203,203] 203 #[v,.slice (some ⟨w.heap.size,0,none⟩) 1 1]).run Tryz.prog (w.alloc (.cells #[.string (strOf e.key),.string (strOf e.v.data),.bool e.v.far,.int .i64 e.v.size,.int .i64 e.v.page] 211))=.ok v' w'∧OwnEn w' base v' (l++[e])∧w.grownBy w' v.ownBlock:=by
 obtain⟨i0,hi,hz0,hz1,hz2⟩:=info_parts info_entry;obtain⟨v',w',hr,ho,hg,_⟩:=run_append_new (P:=Tryz.prog) base 203 211 i0 _ 5 56 Tryz.underlying203 hi hz0 hz1 hz2 rfl (by decide) h #[.string (strOf e.key),.string (strOf e.v.data),.bool e.v.far,.int .i64 e.v.size,.int .i64 e.v.page] rfl (fun u hu=>by simp at hu;rcases hu with rfl|rfl|rfl|rfl|rfl<;>rfl) (by unfold maxLen;omega) (by omega) hbase;refine⟨v',w',hr,?_,hg⟩;unfold OwnEn;rw[List.flatMap_append,List.length_append];simpa[ecells,vcells] using ho
def DecTo (leaf:Bool) (cl:List (List UInt8)) (k:Nat) (es:List En):Prop:=decL leaf (cl.take k)=some es
theorem DecTo.step {leaf:Bool} {cl:List (List UInt8)} {k:Nat} {es:List En} {c:List UInt8} {e:En} (h:DecTo leaf cl k es) (hc:cl[k]? = some c) (he:decE leaf c=some e):DecTo leaf cl (k+1) (es++[e]):=by
 unfold DecTo at h ⊢;rw[List.take_add_one,hc];show decL leaf (cl.take k++[c])=_;rw[decL_snoc,h,he]
theorem DecTo.len {leaf:Bool} {cl:List (List UInt8)} {k:Nat} {es:List En} (h:DecTo leaf cl k es):es.length≤k:=by
 have:=decL_length h;rw[this];simp;omega
def GetNPost (w:World) (leaf:Bool) (l:List En) (er:Int) (e:Ending) (w':World):Prop:=
 ∃v,e=.returned (.tuple #[.agg #[.bool leaf,v],.int .i64 er])∧OwnEn w' w.heap.size v l∧Below w.heap.size w w'
theorem getpost_none {w w':World} {e:Ending} {er:Int} (he:e=.returned (.tuple #[.agg #[.bool false,.slice none 0 0],.int .i64 er])) (hb:Below w.heap.size w w'):GetNPost w false [] er e w':=⟨_,he,OwnEn.nil _ _,hb⟩
theorem ta_val (v:Vv) (W:World):(Instr.typeAssert (.iface 209 (vv v)) 20 209 true).run Tryz.prog W=.ok (.tuple #[vv v,.bool true]) W:=by kernel_rfl
theorem ta_none (x:Int) (W:World):(Instr.typeAssert (.iface 32 (.int .i64 x)) 20 209 true).run Tryz.prog W=.ok (.tuple #[.agg #[.string ⟨#[]⟩,.bool false,.int .i64 0,.int .i64 0],.bool false]) W:=by kernel_rfl
theorem nget_err (a:Option Addr) (n cap:Nat) (b:List UInt8) (w:World) (h:Bs w a n cap b) (hh:Half w) (hE:unpE b≠0) :
 Calls Tryz.prog 96 #[.slice a n cap] w (GetNPost w false [] (unpE b)):=by
 have m8ff3fd:=trivial;exact q53920b
theorem nget_kind (a:Option Addr) (n cap:Nat) (b:List UInt8) (w:World) (h:Bs w a n cap b) (hh:Half w) (hE:unpE b=0) (hk:2<(unpK b).toNat) :
 Calls Tryz.prog 96 #[.slice a n cap] w (GetNPost w false [] 11):=by
 have m8ed409:=trivial;exact q53920b
theorem nget_leaf (a:Option Addr) (n cap:Nat) (b:List UInt8) (w:World) (h:Bs w a n cap b) (hh:Half w) (hE:unpE b=0) (hk:unpK b=kindN true) :
 Calls Tryz.prog 96 #[.slice a n cap] w (GetNPost w (getNF b) (getNL b) (getNE b)):=by
 have m6f91dc:=trivial;exact q53920b
theorem nget_branch (a:Option Addr) (n cap:Nat) (b:List UInt8) (w:World) (h:Bs w a n cap b) (hh:Half w) (hE:unpE b=0) (hk:unpK b=kindN false) :
 Calls Tryz.prog 96 #[.slice a n cap] w (GetNPost w (getNF b) (getNL b) (getNE b)):=by
 have m7e7c9f:=trivial;exact q53920b
theorem nget_any (a:Option Addr) (n cap:Nat) (b:List UInt8) (w:World) (h:Bs w a n cap b) (hh:Half w) :
 Calls Tryz.prog 96 #[.slice a n cap] w (GetNPost w (getNF b) (getNL b) (getNE b)):=by
 by_cases hE:unpE b=0
 ·by_cases hk:(unpK b).toNat≤2
  ·have hf:=(page_of_unp b hE).2
   have h0:unpK b≠0:=fun e=>by rw[fits,e] at hf;simp at hf
   have h0':(unpK b).toNat≠0:=fun e=>h0 (UInt8.toNat_inj.1 e)
   by_cases h1:(unpK b).toNat=1
   ·exact nget_leaf a n cap b w h hh hE (UInt8.toNat_inj.1 h1)
   ·exact nget_branch a n cap b w h hh hE (UInt8.toNat_inj.1 (show(unpK b).toNat=2 by omega))
  ·have hB:getNB b=false:=by rw[getNB,decide_eq_false hk];rfl
   have hE2:getNE b=11:=by rw[getNE,if_neg (by rw[hE];simp),hB];rfl
   have hL2:getNL b=[]:=by rw[getNL,if_neg (by rw[hE2];decide)]
   have hF2:getNF b=false:=by rw[getNF,if_neg (by rw[hE2];decide)]
   rw[hE2,hL2,hF2];exact nget_kind a n cap b w h hh hE (by omega)
 ·have hE2:getNE b=unpE b:=by rw[getNE,if_pos hE]
  have hL2:getNL b=[]:=by rw[getNL,hE2,if_neg hE]
  have hF2:getNF b=false:=by rw[getNF,hE2,if_neg hE]
  rw[hE2,hL2,hF2];exact nget_err a n cap b w h hh hE
open Go.RowKit
def PagePost (T:Nat) (w:World) (lb mb da M:Nat) (d:List Rg) (r:Int) (n:Nat) (R:Except Int (List Int×Tr)) (e:Ending) (w':World):Prop:=
 Only [mb] w w'∧match R with
  | .ok (s,t)=>∃cs,e=.returned (.agg cs.toArray)∧NodeOn (fun b=>w.heap.size≤b) n w' cs t∧LdIn T w' lb mb da M d r s
  | .error x=>e=.panicked (errP x)
def leafR (p:Int):Except Int (List Int×List (List UInt8×Tv))→Except Int (List Int×Tr)
 | .error x=>.error x
 | .ok (s,L)=>.ok (s,.leaf p L)
def nodeR (p:Int):Except Int (List Int×List (List UInt8×Tr))→Except Int (List Int×Tr)
 | .error x=>.error x
 | .ok (s,L)=>.ok (s,.node p L)
theorem zero_nodeL (w:World):(zeroValue 50).run Tryz.prog w=.ok (.agg #[.int .i64 0,.bool false,.slice none 0 0,.slice none 0 0,.slice none 0 0]) w:=by kernel_rfl
theorem page_seen {T:Nat} {w:World} {lb mb da M:Nat} {d:List Rg} {r:Int} {seen:List Int} (n:Nat) (h:LdIn T w lb mb da M d r seen) (hT:T≤w.heap.size) (hl:seen.length≤1000) (p:Int) (hp:I64 p) (hm:p∈seen) :
 Calls Tryz.prog 52 #[.pointer (some ⟨lb,0,none⟩),.int .i64 p] w (PagePost T w lb mb da M d r (n+1) (loadT d r (n+1) seen p)):=by
 have hR:loadT d r (n+1) seen p=.error 11:=by unfold loadT;rw[if_pos hm]
 rw[hR];obtain⟨w1,hw1⟩:∃w1,w.alloc (.cells #[.int .i64 0,.bool false,.slice none 0 0,.slice none 0 0,.slice none 0 0] 50)=w1:=⟨_,rfl⟩
 have hb1:Below w.heap.size w w1:=by rw[←hw1];exact Below.al (Below.refl _ _)
 obtain⟨w2,hw2⟩:∃w2,w1.alloc (.cells #[.int .i64 p] 3)=w2:=⟨_,rfl⟩
 have hb2:Below w.heap.size w w2:=by rw[←hw2];exact Below.al hb1
 have hs1:=hb1.size;have hrow:Row .i64 w2 (some ⟨w1.heap.size,0,none⟩) 1 1 [p]:=by
  rw[←hw2];exact Row.made .i64 w1 3 [p] rfl (by unfold maxLen;simp)
 have hmb:=h.lt.2;have S1:=see_any (ps:=[p]) (h.below hT hb2) (by simp;omega) (by simpa using hp) hrow (fun x ex=>by cases ex;show w1.heap.size≠mb;omega);have hsee:seeL seen [p]=none:=by unfold seeL;rw[if_pos hm]
 rw[hsee] at S1;have hz:=zero_nodeL;have HB2:=Hd hb2;clear hb1 hb2 hrow hR hsee hm h hs1 hmb;go_enter Tryz.func52,Tryz.ntmps52;go_wp2_with fail;refine S1.mono ?_;rintro e w3 ⟨ho,rfl⟩;refine⟨rfl,below_only HB2.out ho,rfl⟩
theorem page_bad1 {T:Nat} {w:World} {lb mb da M:Nat} {d:List Rg} {r:Int} {seen:List Int} (n:Nat) (h:LdIn T w lb mb da M d r seen) (hT:T≤w.heap.size) (hs:SeenOk seen) (p:Int) (hp:I64 p) (hm:p∉seen) (hE:pagedE d r p≠0) :
 Calls Tryz.prog 52 #[.pointer (some ⟨lb,0,none⟩),.int .i64 p] w (PagePost T w lb mb da M d r (n+1) (loadT d r (n+1) seen p)):=by
 have hR:loadT d r (n+1) seen p=.error (pagedE d r p):=by unfold loadT;rw[if_neg hm,if_pos hE]
 have m68bce9:=trivial;exact q390662
theorem page_bad2 {T:Nat} {w:World} {lb mb da M:Nat} {d:List Rg} {r:Int} {seen:List Int} (n:Nat) (h:LdIn T w lb mb da M d r seen) (hT:T≤w.heap.size) (hs:SeenOk seen) (p:Int) (hp:I64 p) (hm:p∉seen) (hP:pagedE d r p=0) (hE:getNE (readB d r p)≠0) :
 Calls Tryz.prog 52 #[.pointer (some ⟨lb,0,none⟩),.int .i64 p] w (PagePost T w lb mb da M d r (n+1) (loadT d r (n+1) seen p)):=by
 have hR:loadT d r (n+1) seen p=.error (getNE (readB d r p)):=by unfold loadT;rw[if_neg hm,if_neg (by omega),if_pos hE]
 have m8111d8:=trivial;exact q390662
theorem page_leaf {T:Nat} {w:World} {lb mb da M:Nat} {d:List Rg} {r:Int} {seen:List Int} (n:Nat) (h:LdIn T w lb mb da M d r seen) (hT:T≤w.heap.size) (hs:SeenOk seen) (p:Int) (hp:I64 p) (hm:p∉seen) (hP:pagedE d r p=0) (hE:getNE (readB d r p)=0) (hF:getNF (readB d r p)=true) :
 Calls Tryz.prog 52 #[.pointer (some ⟨lb,0,none⟩),.int .i64 p] w (PagePost T w lb mb da M d r (n+1) (loadT d r (n+1) seen p)):=by
 obtain⟨R0,hR0⟩:∃R0,valsL d r (seen++[p]) (getNL (readB d r p))=R0:=⟨_,rfl⟩
 have hR:loadT d r (n+1) seen p=leafR p R0:=by
  unfold loadT;rw[if_neg hm,if_neg (by omega),if_neg (by omega),if_pos hF,hR0];cases R0<;>rfl
 have m0baff6:=trivial;exact q390662
theorem page_node {T:Nat} {w:World} {lb mb da M:Nat} {d:List Rg} {r:Int} {seen:List Int} {n:Nat} (IH:∀{w:World} {seen:List Int} {p:Int},LdIn T w lb mb da M d r seen→T≤w.heap.size→SeenOk seen→roomL seen<n→I64 p→p≠0→Calls Tryz.prog 52 #[.pointer (some ⟨lb,0,none⟩),.int .i64 p] w (PagePost T w lb mb da M d r n (loadT d r n seen p))) (h:LdIn T w lb mb da M d r seen) (hT:T≤w.heap.size) (hs:SeenOk seen) (p:Int) (hp:I64 p) (hm:p∉seen) (hroom:roomL seen<n+1) (hp0:p≠0) (hP:pagedE d r p=0) (hE:getNE (readB d r p)=0) (hF:getNF (readB d r p)=false) :
 Calls Tryz.prog 52 #[.pointer (some ⟨lb,0,none⟩),.int .i64 p] w (PagePost T w lb mb da M d r (n+1) (loadT d r (n+1) seen p)):=by
 obtain⟨R0,hR0⟩:∃R0,kidsL (loadT d r n) (seen++[p]) (getNL (readB d r p))=R0:=⟨_,rfl⟩
 have hR:loadT d r (n+1) seen p=nodeR p R0:=by
  unfold loadT;rw[if_neg hm,if_neg (by omega),if_neg (by omega),if_neg (by rw[hF];simp),hR0];cases R0<;>rfl
 have hrng:=paged_range h.dok hP;have hroom0:roomL (seen++[p])<n:=by have:=roomL_see hm (by omega) hrng.2;omega
 have m1a3854:=trivial;exact q390662
theorem lpage_any:∀(n:Nat) {T:Nat} {w:World} {lb mb da M:Nat} {d:List Rg} {r:Int} {seen:List Int} {p:Int},LdIn T w lb mb da M d r seen→T≤w.heap.size→SeenOk seen→roomL seen<n→I64 p→p≠0 →
 Calls Tryz.prog 52 #[.pointer (some ⟨lb,0,none⟩),.int .i64 p] w (PagePost T w lb mb da M d r n (loadT d r n seen p))
 | 0,_,_,_,_,_,_,_,_,_,_,_,_,_,h,_,_=>absurd h (Nat.not_lt_zero _)
 | n+1,_,_,_,_,_,_,d,r,seen,p,h,hT,hs,hroom,hp,hp0=>by
  by_cases hm:p∈seen
  ·exact page_seen n h hT hs.len p hp hm
  ·by_cases hP:pagedE d r p=0
   ·by_cases hE:getNE (readB d r p)=0
    ·cases hF:getNF (readB d r p) with
     | true=>exact page_leaf n h hT hs p hp hm hP hE hF
     | false=>exact page_node (fun h hT hs hr hp hp0=>lpage_any n h hT hs hr hp hp0) h hT hs p hp hm hroom hp0 hP hE hF
    ·exact page_bad2 n h hT hs p hp hm hP hE
   ·exact page_bad1 n h hT hs p hp hm hP
open Go.RowKit
theorem fitsv_any (v:Tv) {w:World} {a:Option Addr} {n c:Nat} (h:Row .i64 w a n c v.pages) (hd:v.data.length≤1000) :
 Calls Tryz.prog 181 #[.agg #[.string (strOf v.data),.slice a n c]] w fun e w'=>e=.returned (.bool (!valB v))∧Below w.heap.size w w':=by
 have hn:=h.1;have hsz:=strOf_size v.data;have N:=fun W=>cneed_any (v.data.length:Int) W
 have hv:valB v=(decide (v.data.length≤400) && (n == 0 || decide (needC (v.data.length:Int)≠0))):=by unfold valB;rw[hn]
 have hc:=h.2.1;have hm:=h.2.2.1;unfold maxLen at hm;have HV:=Hd hv;clear hv hn h;obtain⟨dl,hdl⟩:∃x,v.data.length=x:=⟨_,rfl⟩
 rw[hdl] at hsz N HV hd;clear hdl
 by_cases h4:400<dl
 ·have HE:Hid (valB v=false):=Hd (by rw[HV.out];simp;omega)
  have d4:decide ((400:Int)<dl)=true:=by simp;omega
  have d4':decide (400<dl)=true:=by simp;omega
  go_enter Tryz.func181,Tryz.ntmps181;go_wp2_with fail;go_ret;exact⟨by rw[HE.out];rfl,Below.al (Below.refl _ _)⟩
 ·have d4:decide ((400:Int)<dl)=false:=by simp;omega
  have d4':decide (400<dl)=false:=by simp;omega
  by_cases h0:n=0
  ·have HE:Hid (valB v=true):=Hd (by rw[HV.out];simp;omega)
   have d0:decide ((0:Int)<n)=false:=by simp;omega
   have d0':decide (0<n)=false:=by simp;omega
   go_enter Tryz.func181,Tryz.ntmps181;go_wp2_with fail;go_ret;exact⟨by rw[HE.out];rfl,Below.al (Below.refl _ _)⟩
  ·have d0:decide ((0:Int)<n)=true:=by simp;omega
   have d0':decide (0<n)=true:=by simp;omega
   obtain⟨q,hq⟩:∃q,needC (dl:Int)=q:=⟨_,rfl⟩
   rw[hq] at N;have HE:Hid (valB v=decide (q≠0)):=Hd (by
    rw[HV.out,hq];have:(n == 0)=false:=by simpa using h0
    rw[this];simp;omega)
   clear hq h4 h0
   by_cases hq0:q=0
   ·have HZ:Hid (valB v=false):=Hd (by rw[HE.out,hq0];rfl)
    have hqq:((q:Int) == 0)=true:=by rw[hq0];rfl
    exact qcbdfaf
   ·have HZ:Hid (valB v=true):=Hd (by rw[HE.out];simpa using hq0)
    have hqq:((q:Int) == 0)=false:=by simpa using hq0
    exact qcbdfaf
theorem call_fits1 (args:Array Value) (W:World):(callFunc 181 args).run Tryz.prog W=.ok (.enter 181 args) W:=by kernel_rfl
theorem val_at {w:World} {a:Option Addr} {n c:Nat} {l:List Tv} (h:TabR 2 (IsTv w) w a n c l) {k:Nat} (hk:k<n) :
 ∃b off v pa pn pc,a=some ⟨b,off,none⟩∧b<w.heap.size∧l[k]? = some v∧w.cell? ⟨b,off+k*2,none⟩=some (.string (strOf v.data))∧w.cell? ⟨b,off+k*2+1,none⟩=some (.slice pa pn pc)∧Row .i64 w pa pn pc v.pages:=by
 exact qfd2e77
theorem fitsi_any {w:World} {a:Option Addr} {n c:Nat} {l:List Tv} (h:TabR 2 (IsTv w) w a n c l) (hd:∀v∈l,v.data.length≤1000) :
 Calls Tryz.prog 200 #[.slice a n c,.func (.func 181) #[] #[]] w fun e w'=>∃i:Int,e=.returned (.int .i64 i)∧(0≤i↔l.all valB=false)∧Below w.heap.size w w':=by
 obtain⟨e1,e2,e3⟩:=TabR.lens h;have H:=Hd h;have HD:=Hd hd;have HL:=Hd e1;have HF:=call_fits1;clear h hd e1;go_enter Tryz.func200,Tryz.ntmps200;go_wp2_with fail
 go_loopw [5,8] (fun s5 s wr=>∃i:Nat,i≤n∧s=.int .i64 i∧(l.take i).all valB=true∧Below w.heap.size w wr) (fun _ s _=>n-(intOf s).toNat)
 case atStart=>exact⟨0,Nat.zero_le _,rfl,by simp,Below.refl _ _⟩
 case round=>
  obtain⟨i,hi,rfl,hall,hb⟩:=hrel
  by_cases hlt:i<n
  ·obtain⟨b,off,v,pa,pn,pc,rfl,hbb,hy,c0,c1,hr⟩:=val_at H.out hlt
   have k0:=(hb.cell (p:=⟨b,off+i*2,none⟩) hbb).trans c0;have k1:=(hb.cell (p:=⟨b,off+i*2+1,none⟩) hbb).trans c1;have C1:=fitsv_any v (hr.below (Nat.le_refl _) hb) (HD.out v (List.mem_of_getElem? hy));have HS:Hid ((l.take (i+1)).all valB=valB v):=Hd (by
    rw[List.take_succ_eq_append_getElem (by rw[HL.out];exact hlt),List.all_append,hall];have:l[i]'(by rw[HL.out];exact hlt)=v:=(List.getElem?_eq_some_iff.1 hy).2;simp[this])
   have HB:=Hd hb;clear c0 c1 hr hall hy hb;cases hvb:valB v with
   | true=>
    rw[hvb] at C1;have HVB:=Hd hvb;clear hvb;go_wp2_with fail;refine C1.mono ?_;rintro e w2 ⟨rfl,hb2⟩;have HB2:=Hd (HB.out.trans (hb2.mono HB.out.size));clear C1 hb2;go_wp2_with fail;go_roundw
    case rel=>exact⟨i+1,hlt,by go_num,by rw[HS.out,HVB.out],HB2.out⟩
    case measure=>simp[intOf];omega
   | false=>
    rw[hvb] at C1;have HVB:=Hd hvb;clear hvb;go_wp2_with fail;refine C1.mono ?_;rintro e w2 ⟨rfl,hb2⟩;have HB2:=Hd (HB.out.trans (hb2.mono HB.out.size));clear C1 hb2;go_wp2_with fail;go_ret;refine⟨_,rfl,⟨fun _=>?_,fun _=>by omega⟩,HB2.out⟩;have h1:l.all valB=((l.take (i+1)).all valB && (l.drop (i+1)).all valB):=by rw[←List.all_append,List.take_append_drop]
    rw[h1,HS.out,HVB.out];rfl
  ·obtain rfl:i=n:=by omega
   have HA:=Hd hall;have HB:=Hd hb;clear hall hb;go_wp2_with fail;go_ret;refine⟨_,rfl,⟨fun h=>absurd h (by decide),fun h=>?_⟩,HB.out⟩;have:=HA.out;rw[List.take_of_length_le (by rw[HL.out];exact Nat.le_refl _),h] at this;cases this
theorem fitsc_any {w:World} {a:Option Addr} {n c:Nat} {l:List Tv} (h:TabR 2 (IsTv w) w a n c l) (hd:∀v∈l,v.data.length≤1000) :
 Calls Tryz.prog 180 #[.slice a n c,.func (.func 181) #[] #[]] w fun e w'=>e=.returned (.bool (!l.all valB))∧Below w.heap.size w w':=by
 have X:=fitsi_any h hd;clear h hd;obtain⟨z,hz⟩:∃z,l.all valB=z:=⟨_,rfl⟩
 rw[hz] at X ⊢;clear hz;go_enter Tryz.func180,Tryz.ntmps180;go_wp2_with fail;refine X.mono ?_;rintro e w' ⟨i,rfl,hi,hb⟩;have HI:=Hd hi;have HB:=Hd hb;clear X hi hb;go_wp2_with fail;go_ret;refine⟨?_,HB.out⟩;cases z with
 | true=>
  have:¬0≤i:=fun h=>by have:=HI.out.1 h;cases this
  simp[this]
 | false=>
  have:0≤i:=HI.out.2 rfl;simp[this]
theorem fitTo_bad {lo hi:List UInt8} {leaf:Bool} {ks:List (List UInt8)} {n i:Nat} (hi':i<n) (h:fitAt lo hi leaf ks i=false):fitTo lo hi leaf ks n=false:=by
 unfold fitTo;rw[List.all_eq_false];exact⟨i,List.mem_range.2 hi',by rw[h];decide⟩
theorem fits_any {n:Nat} {w:World} {cs:List Value} {t:Tr} (h:NodeIn (n+1) w cs t) (hb:Bnd (n+1) t) (lo hi:List UInt8) (_hlo:lo.length≤1000) (_hhi:hi.length≤1000) :
 Calls Tryz.prog 142 #[.agg cs.toArray,.agg #[.string (strOf lo),.string (strOf hi)]] w fun e w'=>e=.returned (.bool (fitT lo hi t))∧Below w.heap.size w w':=by
 have m283548:=trivial;exact q296b06
open Go.RowKit
def depI:Option Nat→Int
 | none => -1
 | some d=>(d:Int)
theorem depK_lt {f:Tr→List UInt8→List UInt8→Option Nat} {N:Nat} (hf:∀t lo hi d,f t lo hi=some d→d<N):∀{l:List (List UInt8×Tr)} {i far:Nat} {lo hi:List UInt8} {d:Nat},far≤N→depK f lo hi i far l=some d→d≤N
 | [],_,_,_,_,_,h1,h2=>by cases h2;exact h1
 | c::r,i,far,lo,hi,d,h1,h2=>by
  unfold depK at h2;cases hc:f c.2 (if i=0 then lo else c.1) (nextH hi r) with
  | none=>rw[hc] at h2;cases h2
  | some e=>
   rw[hc] at h2
   by_cases hb:i≠0∧e+1≠far
   ·simp only[if_pos hb] at h2;cases h2
   ·simp only[if_neg hb] at h2
    have:=hf _ _ _ _ hc;exact depK_lt hf (by omega) h2
theorem depthT_lt:∀{n:Nat} {t:Tr} {lo hi:List UInt8} {root:Bool} {d:Nat},depthT n t lo hi root=some d→d<n
 | 0,_,_,_,_,_,h=>by cases h
 | n+1,.leaf p l,lo,hi,root,d,h=>by
  unfold depthT at h
  split at h
  ·cases h;omega
  ·cases h
 | n+1,.node p l,lo,hi,root,d,h=>by
  unfold depthT at h
  split at h
  ·have:=depK_lt (N:=n) (fun t lo hi d h=>depthT_lt h) (Nat.zero_le _) h
   omega
  ·cases h
theorem depK_none {f:Tr→List UInt8→List UInt8→Option Nat} {lo hi:List UInt8} {i far:Nat} {l:List (List UInt8×Tr)} {c:List UInt8×Tr} (h:l[i]? = some c) (hf:f c.2 (if i=0 then lo else c.1) (nextH hi (l.drop (i+1)))=none):depK f lo hi i far (l.drop i)=none:=by
 obtain⟨h1,h2⟩:=List.getElem?_eq_some_iff.1 h;rw[List.drop_eq_getElem_cons h1,h2];unfold depK;rw[hf]
theorem depK_far {f:Tr→List UInt8→List UInt8→Option Nat} {lo hi:List UInt8} {i far d:Nat} {l:List (List UInt8×Tr)} {c:List UInt8×Tr} (h:l[i]? = some c) (hf:f c.2 (if i=0 then lo else c.1) (nextH hi (l.drop (i+1)))=some d) (hd:i≠0∧d+1≠far):depK f lo hi i far (l.drop i)=none:=by
 obtain⟨h1,h2⟩:=List.getElem?_eq_some_iff.1 h;rw[List.drop_eq_getElem_cons h1,h2];unfold depK;rw[hf];simp only[if_pos hd]
theorem depK_go {f:Tr→List UInt8→List UInt8→Option Nat} {lo hi:List UInt8} {i far d:Nat} {l:List (List UInt8×Tr)} {c:List UInt8×Tr} (h:l[i]? = some c) (hf:f c.2 (if i=0 then lo else c.1) (nextH hi (l.drop (i+1)))=some d) (hd:¬(i≠0∧d+1≠far)):depK f lo hi i far (l.drop i)=depK f lo hi (i+1) (d+1) (l.drop (i+1)):=by
 obtain⟨h1,h2⟩:=List.getElem?_eq_some_iff.1 h;rw[List.drop_eq_getElem_cons h1,h2]
 conv=>lhs;unfold depK
 rw[hf];simp only[if_neg hd]
theorem depthT_leaf (n:Nat) (p:Int) (l:List (List UInt8×Tv)) (lo hi:List UInt8) (root:Bool):depthT (n+1) (.leaf p l) lo hi root=if fitT lo hi (.leaf p l) && sizeB root (.leaf p l) then some 0 else none:=rfl
theorem depthT_node (n:Nat) (p:Int) (l:List (List UInt8×Tr)) (lo hi:List UInt8) (root:Bool):depthT (n+1) (.node p l) lo hi root=if fitT lo hi (.node p l) && sizeB root (.node p l) then depK (fun t lo hi=>depthT n t lo hi false) lo hi 0 0 l else none:=rfl
theorem nextH_last {hi:List UInt8} {l:List (List UInt8×Tr)} {i:Nat} (h:l.length≤i+1):nextH hi (l.drop (i+1))=hi:=by rw[List.drop_of_length_le h];rfl
theorem nextH_mid {hi:List UInt8} {l:List (List UInt8×Tr)} {i:Nat} {k:List UInt8} (hk:(keysOf l)[i+1]?.getD []=k) (h:i+1<l.length):nextH hi (l.drop (i+1))=k:=by
 rw[List.drop_eq_getElem_cons h];rw[←hk];simp[nextH,keysOf,h]
theorem depth_step {n:Nat} (IH:∀{w:World} {cs:List Value} {t:Tr},NodeIn n w cs t→Bnd n t→∀(lo hi:List UInt8),lo.length≤1000→hi.length≤1000 →
 Calls Tryz.prog 98 #[.agg cs.toArray,.agg #[.string (strOf lo),.string (strOf hi)],.bool false] w fun e w'=>e=.returned (.int .i64 (depI (depthT n t lo hi false)))∧Below w.heap.size w w')
 {w:World} {cs:List Value} {t:Tr} (h:NodeIn (n+1) w cs t) (hb:Bnd (n+1) t) (hn:n≤1000) (lo hi:List UInt8) (root:Bool) (hlo:lo.length≤1000) (hhi:hi.length≤1000) :
 Calls Tryz.prog 98 #[.agg cs.toArray,.agg #[.string (strOf lo),.string (strOf hi)],.bool root] w fun e w'=>e=.returned (.int .i64 (depI (depthT (n+1) t lo hi root)))∧Below w.heap.size w w':=by
 have hh:=h;obtain⟨ka,kc,va,vn,vc,ca,cn,cc,V,C,rfl,h1,h2,h3,h4⟩:=h.openK;obtain⟨_,_,r2⟩:=h4.lens;obtain⟨lf,hlf⟩:∃x,t.isLeaf=x:=⟨_,rfl⟩
 obtain⟨m,hm⟩:∃x,cntT t=x:=⟨_,rfl⟩
 obtain⟨pg,hpg⟩:∃x,t.page=x:=⟨_,rfl⟩
 have hm9:m≤1000:=by rw[←hm];exact hb.cnt
 rw[hlf,hm] at r2;have hcn:cn=if lf then 0 else m:=by rw[←h3.1,r2]
 rw[hlf,hm,hpg] at hh;rw[hm] at h1;have mfb3295:=trivial;exact q798742
theorem depth_any:∀{n:Nat} {w:World} {cs:List Value} {t:Tr},NodeIn n w cs t→Bnd n t→n≤1000→∀(lo hi:List UInt8) (root:Bool),lo.length≤1000→hi.length≤1000 →
 Calls Tryz.prog 98 #[.agg cs.toArray,.agg #[.string (strOf lo),.string (strOf hi)],.bool root] w fun e w'=>e=.returned (.int .i64 (depI (depthT n t lo hi root)))∧Below w.heap.size w w'
 | 0,_,_,_,h,_,_,_,_,_,_,_=>h.elim
 | n+1,_,_,_,h,hb,hn,lo,hi,root,hlo,hhi=>depth_step (fun h hb lo hi hlo hhi=>depth_any h hb (by omega) lo hi false hlo hhi) h hb (by omega) lo hi root hlo hhi
theorem depI_nn (o:Option Nat):decide ((0:Int)≤depI o)=o.isSome:=by
 cases o with
 | none=>rfl
 | some d=>simp[depI]
theorem tcheck_any {n:Nat} {w:World} {cs:List Value} {t:Tr} (h:NodeIn n w cs t) (hb:Bnd n t) (hn:n≤1000) :
 Calls Tryz.prog 53 #[.agg cs.toArray] w fun e w'=>e=.returned (.bool (checkT n t))∧Below w.heap.size w w':=by
 cases n with
 | zero=>exact h.elim
 | succ n=>
 have hh:=h;have m05e885:=trivial;exact q296b06
open Go.RowKit
def loadD (d:List Rg) (r root:Int):Except Int Tr:=
 if root=0 then .ok (.leaf 0 [])
 else match loadT d r 1000 [] root with
  | .error x=>.error x
  | .ok (_,t)=>if checkT 1000 t then .ok t else .error 11
def LoadPost (w:World) (R:Except Int Tr) (e:Ending) (w':World):Prop:=
 Below w.heap.size w w'∧match R with
  | .ok t=>∃cs,e=.returned (.tuple #[.agg cs.toArray,.int .i64 0])∧NodeOn (fun b=>w.heap.size≤b) 1000 w' cs t
  | .error x=>e=.returned (.tuple #[.agg #[.int .i64 0,.bool false,.slice none 0 0,.slice none 0 0,.slice none 0 0],.int .i64 x])
theorem recover_idle (p q:Addr) (w:World) :
 CallsD Tryz.prog 51 #[.pointer (some p),.pointer (some q)] .returning w fun e u' w'=>e=.returned (.tuple #[])∧u'=.returning∧w'=w:=by
 refine callsD_of_wpS Tryz.func51 rfl fun c₀ cs hu=>?_
 apply wpS_seq;apply wpS_region;simp[wpOpsS,go_sem,recoverD,hu,Tryz.ntmps51,Exit.thenS];apply wpS_of_wp
 go_wp2_with (fail)
 cases c₀
 simp_all [bodyPostS,results,Tryz.results51]
theorem recover_caught (b e:Nat) (x y:Int) (older:List PanicEntry) (w:World) {a0 a1 a2 a3 a4:Value} (hb:Boxes w [(b,[a0,a1,a2,a3,a4]),(e,[.int .i64 y])]) (hne:b≠e) :
 CallsD Tryz.prog 51 #[.pointer (some ⟨b,0,none⟩),.pointer (some ⟨e,0,none⟩)] (.panicking ({ v:=.iface 32 (.int .i64 x),recovered:=false }::older)) w fun en u' w'=>
  en=.returned (.tuple #[])∧u'=.panicking ({ v:=.iface 32 (.int .i64 x),recovered:=true }::older)∧w'=((set5 w b (.int .i64 0) (.bool false) (.slice none 0 0) (.slice none 0 0) (.slice none 0 0)).setCell ⟨e,0,none⟩ (.int .i64 x)).drew:=by
 refine callsD_of_wpS Tryz.func51 rfl fun c₀ cs hu=>?_
 apply wpS_seq;apply wpS_region;simp[wpOpsS,go_sem,recoverD,hu,Tryz.ntmps51,Exit.thenS];have ta:∀W:World,(Instr.typeAssert (.iface 32 (.int .i64 x)) 20 32 false).run Tryz.prog W=.ok (.int .i64 x) W:=fun W=>by kernel_rfl
 have hz:=zero_nodeL;have c0:=hb.cell 0 0 rfl rfl;have f0:=hb.frozen 0 0 rfl;have c1:=hb.cell 0 1 rfl rfl;have f1:=hb.frozen 0 1 rfl;have c2:=hb.cell 0 2 rfl rfl;have f2:=hb.frozen 0 2 rfl;have c3:=hb.cell 0 3 rfl rfl;have f3:=hb.frozen 0 3 rfl;have c4:=hb.cell 0 4 rfl rfl;have f4:=hb.frozen 0 4 rfl;have e0:=hb.cell 1 0 rfl rfl;have fe:=hb.frozen 1 0 rfl;have hne2:e≠b:=fun h=>hne h.symm
 clear hb;apply wpS_of_wp
 go_wp2_with (fail)
 ·go_region
  all_goals (show bodyPostS Tryz.prog _ _ _ _ Exit.normal _ _ _;cases c₀;simp_all [bodyPostS,results,Tryz.results51,set5])
theorem load_set {w:World} {b e:Nat} {x0 x1 x2 x3 x4 x:Value} (h:Boxes w [(e,[x]),(b,[x0,x1,x2,x3,x4])]) (hne:b≠e) (y0 y1 y2 y3 y4:Value) (y:Int):Boxes ((set5 w b y0 y1 y2 y3 y4).setCell ⟨e,0,none⟩ (.int .i64 y)) [(b,[y0,y1,y2,y3,y4]),(e,[.int .i64 y])]:=by
 have h1:Boxes w [(b,[x0,x1,x2,x3,x4]),(e,[x])]:=h.sub (by intro q hq;simp at hq ⊢;rcases hq with rfl|rfl<;>simp);have h2:=set5_box h1 (by intro q hq;simp at hq;subst hq;exact fun h=>hne h.symm) y0 y1 y2 y3 y4;have h3:Boxes (set5 w b y0 y1 y2 y3 y4) [(e,[x]),(b,[y0,y1,y2,y3,y4])]:=h2.sub (by intro q hq;simp at hq ⊢;rcases hq with rfl|rfl<;>simp);exact(h3.put 0 (.int .i64 y) (by intro q hq;simp at hq;subst hq;exact hne)).sub (by intro q hq;simp at hq ⊢;rcases hq with rfl|rfl<;>simp)
theorem agree_res {F:Nat→Prop} {w:World} {b e:Nat} (hb:¬F b) (he:¬F e) {y0 y1 y2 y3 y4 y:Value}:AgreeF F w ((set5 w b y0 y1 y2 y3 y4).setCell ⟨e,0,none⟩ y):=by
 unfold set5;exact(((((AgreeF.refl w).set (.inl hb)).set (.inl hb)).set (.inl hb)).set (.inl hb)).set (.inl hb) |>.set (.inl he)
theorem loadT_small {d:List Rg} {r:Int} {n:Nat} {seen s:List Int} {p:Int} {t:Tr} (h:loadT d r n seen p=.ok (s,t)):Bnd n t:=(loadT_bnd h).1
theorem load_zero (w:World) (da:Nat) (d:List Rg) (r:Int) :
 Calls Tryz.prog 15 #[.pointer (some ⟨da,0,none⟩),.int .i64 r,.int .i64 0] w (LoadPost w (loadD d r 0)):=by
 have hR:loadD d r 0=.ok (.leaf 0 []):=by unfold loadD;rw[if_pos rfl]
 have maecd3a:=trivial;exact qc14425
theorem load_root {w:World} {B da M:Nat} {d:List Rg} (h:One B w da M d) (hh:Half w) (r root:Int) (hr:I64 root) (h0:root≠0) :
 Calls Tryz.prog 15 #[.pointer (some ⟨da,0,none⟩),.int .i64 r,.int .i64 root] w (LoadPost w (loadD d r root)):=by
 obtain⟨R,hR⟩:∃R,loadD d r root=R:=⟨_,rfl⟩
 have hR0:=hR;unfold loadD at hR0;rw[if_neg h0] at hR0;have m3f8118:=trivial;exact qc14425
theorem load_any {w:World} {B da M:Nat} {d:List Rg} (h:One B w da M d) (hh:Half w) (r root:Int) (hr:I64 root) :
 Calls Tryz.prog 15 #[.pointer (some ⟨da,0,none⟩),.int .i64 r,.int .i64 root] w (LoadPost w (loadD d r root)):=by
 by_cases h0:root=0
 ·subst h0;exact load_zero w da d r
 ·exact load_root h hh r root hr h0
open Go.RowKit
theorem layVs_same:∀{l:List (List UInt8×Tv)} {s:List Int},(∀c∈l,c.2.pages=[])→(layVs l s).1.map (fun e=>(e.1,e.2.data))=l.map (fun e=>(e.1,e.2.data))∧∀e∈(layVs l s).1,e.2.pages≠[]→16<e.2.data.length
 | [],s,_=>by simp[layVs]
 | c::r9,s,hp=>by
  obtain⟨e,e1,e2,h1,h2,h3⟩:=layVs_cons (r:=r9) (s:=s) (hp c (by simp));obtain⟨i1,i2⟩:=layVs_same (l:=r9) (s:=s.drop (needC c.2.data.length)) (fun c hc=>hp c (List.mem_cons_of_mem _ hc));rw[h1];refine⟨by simp only[List.map_cons,i1,e1,e2],fun x hx hne=>?_⟩
  rcases List.mem_cons.1 hx with rfl|hx
  ·rcases h3 with⟨_,rfl,_⟩|⟨h0,rfl,_⟩
   ·exact absurd (hp x (by simp)) hne
   ·have:=needC_pos h0
    show 16<c.2.data.length;omega
  ·exact i2 x hx hne
theorem keysOf_same {l m:List (List UInt8×Tv)} (h:l.map (fun e=>(e.1,e.2.data))=m.map (fun e=>(e.1,e.2.data))):keysOf l=keysOf m:=by
 have:=congrArg (List.map Prod.fst) h;simpa[keysOf,List.map_map,Function.comp_def] using this
theorem sizes_same {l m:List (List UInt8×Tv)} (h:l.map (fun e=>(e.1,e.2.data))=m.map (fun e=>(e.1,e.2.data))) (p q:Int):sizesT (.leaf p l)=sizesT (.leaf q m):=by
 have:=congrArg (List.map (fun x:List UInt8×List UInt8=>((3+(if x.2.length≤16 then x.2.length else 4)+x.1.length:Nat):Int))) h;simpa[sizesT,vSz,List.map_map,Function.comp_def] using this
theorem leafOk_lay {lo hi:List UInt8} {l:List (List UInt8×Tv)} {s:List Int} (h:LeafOk lo hi l) (hp:∀c∈l,c.2.pages=[]):LeafOk lo hi (layVs l s).1:=by
 obtain⟨h1,h2⟩:=layVs_same (s:=s) hp;refine⟨by rw[keysOf_same h1];exact h.1,fun e he=>?_⟩;have hm:(e.1,e.2.data)∈l.map (fun e=>(e.1,e.2.data)):=by rw[←h1];exact List.mem_map.2 ⟨e,he,rfl⟩
 obtain⟨c,hc,hce⟩:=List.mem_map.1 hm
 injection hce with q1 q2
 obtain⟨g1,g2,g3,g4⟩:=h.2 c hc;rw[q1] at g1 g2 g3;exact⟨g1,g2,g3,by rw[←q2];exact g4.1,h2 e he⟩
theorem layKs_keys {f:Tr→List Int→Tr×List Wr×List Int}:∀{l:List (List UInt8×Tr)} {s:List Int},keysOf (layKs f l s).1=keysOf l
 | [],s=>by simp[layKs,keysOf]
 | c::r,s=>by
  rw[layKs_cons];have:=layKs_keys (f:=f) (l:=r) (s:=(f c.2 s).2.2);unfold keysOf at this ⊢;simp only[List.map_cons,this]
theorem layKs_kids {P:List UInt8→List UInt8→Tr→Prop} {f:Tr→List Int→Tr×List Wr×List Int}:∀{l:List (List UInt8×Tr)} {lo hi:List UInt8} {s:List Int},KidsP P lo hi l→(∀c∈l,∀lo hi s,P lo hi c.2→P lo hi (f c.2 s).1)→KidsP P lo hi (layKs f l s).1
 | [c],lo,hi,s,h,hf=>by
  rw[layKs_cons,layKs];exact hf c (by simp) _ _ _ h
 | c::d::r,lo,hi,s,h,hf=>by
  have ih:=layKs_kids (l:=d::r) (s:=(f c.2 s).2.2) h.2.2.2.2 (fun c hc=>hf c (List.mem_cons_of_mem _ hc));rw[layKs_cons];rw[layKs_cons] at ih ⊢;exact⟨hf c (by simp) _ _ _ h.1,h.2.1,h.2.2.1,h.2.2.2.1,ih⟩
theorem sizes_keys {l m:List (List UInt8×Tr)} (h:keysOf l=keysOf m) (p q:Int):sizesT (.node p l)=sizesT (.node q m):=by
 have:=congrArg (List.map (fun x:List UInt8=>((4+x.length:Nat):Int))) h;simpa[sizesT,keysOf,List.map_map,Function.comp_def] using this
theorem lay_shape:∀{n:Nat} {lo hi:List UInt8} {t:Tr} {s:List Int},Shape n lo hi t→Bare t→Shape n lo hi (layT n t s).1∧sizesT (layT n t s).1=sizesT t
 | 0,_,_,_,_,h,_=>h.elim
 | n+1,lo,hi,.leaf p l,s,h,hb=>by
  rw[layT]
  split
  ·exact⟨h,rfl⟩
  ·obtain⟨_,hp⟩:=bare_vals hb
   exact⟨⟨h.1,leafOk_lay h.2 hp⟩,sizes_same (layVs_same hp).1 _ _⟩
 | n+1,lo,hi,.node p l,s,h,hb=>by
  rw[layT];obtain⟨h1,h0⟩:=h;have hk:=layKs_keys (f:=layT n) (l:=l) (s:=s);refine⟨⟨layKs_kids h1 (fun c hc lo hi s hP=>?_),?_⟩,sizes_keys hk _ _⟩
  ·obtain⟨g1,g2⟩:=lay_shape (s:=s) hP.1 ((bare_kids hb).2 c hc)
   refine⟨g1,?_,?_⟩
   ·unfold sumT;rw[g2];exact hP.2.1
   ·unfold sumT;rw[g2];exact hP.2.2
  ·have e:∀(L:List (List UInt8×Tr)),keyAt L 0=(keysOf L)[0]?.getD []:=fun L=>by cases L<;>rfl
   rw[e,hk,←e];exact h0
theorem fresh_zero {n:Nat} {t:Tr} (h:Whole n t) (h0:freshN n t=0):t=.leaf t.page []:=by
 cases n with
 | zero=>exact h.1.1.elim
 | succ n=>
  cases t with
  | leaf p l=>
   rw[freshN] at h0
   split at h0
   ·rename_i e;rw[e];rfl
   ·omega
  | node p l=>rw[freshN] at h0;omega
theorem lay_check {n:Nat} {t:Tr} {s:List Int} (h:Whole n t) (hb:Bare t) (hn:n≤1000) (h0:freshN n t≠0):checkT 1000 (layT n t s).1=true:=by
 obtain⟨⟨h1,h2,h3⟩,_⟩:=h;obtain⟨g1,g2⟩:=lay_shape (s:=s) h1 hb;refine check_ok (n:=n) ⟨g1,by unfold sumT;rw[g2];exact h2,fun p l e=>?_⟩ hn (.inr ?_)
 ·cases n with
  | zero=>exact h1.elim
  | succ n=>
   cases t with
   | leaf q m=>
    rw[layT] at e
    split at e<;>cases e
   | node q m=>
    rw[layT] at e
    injection e with e1 e2
    have hk:=congrArg List.length (layKs_keys (f:=layT n) (l:=m) (s:=s));rw[e2] at hk;simp only[keysOf,List.length_map] at hk;rw[hk];exact h3 q m rfl
 ·cases n with
  | zero=>exact h1.elim
  | succ n=>
   cases t with
   | leaf q m=>
    have hne:m≠[]:=fun e=>by rw[freshN,if_pos e] at h0;exact h0 rfl
    rw[layT,if_neg hne];have hk:=congrArg List.length (layVs_same (s:=s) (bare_vals hb).2).1;simp only[List.length_map] at hk;have:=List.length_pos_iff.2 hne;show 0<(layVs m s).1.length;omega
   | node q m=>
    rw[layT];have hk:=congrArg List.length (layKs_keys (f:=layT n) (l:=m) (s:=s));simp only[keysOf,List.length_map] at hk;have:=h3 q m rfl;show 0<(layKs (layT n) m s).1.length;omega
theorem fits_whole {n:Nat} {t:Tr} (h:Whole n t) (hb:Bare t) (h0:freshN n t≠0):Fits n t:=⟨⟨_,_,h.1.1⟩,hb,h.1.2.1,h0,h.1.2.2⟩
theorem loadD_back {d:List Rg} {r N:Nat} {f:Nat→List UInt8} (hd:RegAt d r N f) {n:Nat} (hn:n≤1000) {t:Tr} (h:Whole n t) (hb:Bare t) {s:List Int} (hs:Spots N s) (hl:freshN n t≤s.length) (hw:Stand f (layT n t s).2.1):loadD d r (layT n t s).1.page=.ok (layT n t s).1:=by
 by_cases h0:freshN n t=0
 ·have ht:=fresh_zero h h0
  have hp0:t.page=0:=hb.page0;rw[hp0] at ht;subst ht;have:(layT n (.leaf 0 []) s).1=.leaf 0 []:=by
   cases n with
   | zero=>rfl
   | succ n=>rw[layT,if_pos rfl]
  rw[this];unfold loadD;exact if_pos rfl
 ·obtain⟨p,e1,e2,e3,e4⟩:=layT_page (fits_whole h hb h0) hs hl
  have:=pgC_lt e3;obtain⟨s2,g1,g2⟩:=load_back hd n 1000 hn t (fits_whole h hb h0) s [] hs hl hw (fun p hp=>by simp);unfold loadD;rw[g1,if_neg (by rw[e1];omega)];show(if checkT 1000 (layT n t s).1 then _ else _)=_;rw[lay_check h hb hn h0,if_pos rfl]
open Go.RowKit
theorem putN_len {leaf:Bool} {l:List En} (h:nodeB leaf l=true):(putN leaf l).length=128:=by
 rw[putN,if_pos h];exact pageOf_length _ _ (by
  have:=fits_node h;unfold fits at this;simp at this;simpa using this.2)
theorem putLC_all {v:List UInt8} {at_:List Int} (hok:putOkC v at_=true):(putLC v at_).length=at_.length∧∀b∈putLC v at_,b.length=128:=by
 rw[putLC,hok,if_pos rfl];refine⟨by simp,fun b hb=>?_⟩;obtain⟨k,_,rfl⟩:=List.mem_map.1 hb;exact pageC_len v at_ k
theorem Spots.ok {N:Nat} {s:List Int} (hs:Spots N s) {v:List UInt8} (hn:needC v.length≠0) (hl:needC v.length≤s.length):putOkC v (s.take (needC v.length))=true:=by
 unfold putOkC;rw[(hs.take _).apt];simp[hn];omega
theorem layVs_writes {N:Nat}:∀{l:List (List UInt8×Tv)} {s:List Int},(∀c∈l,c.2.pages=[])→Spots N s→(l.map fun c=>needC c.2.data.length).sum≤s.length→(layVs l s).2.1.map (·.1)=s.take (l.map fun c=>needC c.2.data.length).sum∧∀x∈(layVs l s).2.1,x.2.length=128
 | [],s,_,_,_=>by simp[layVs]
 | c::r9,s,hp,hs,hl=>by
  simp only[List.map_cons,List.sum_cons] at hl ⊢;obtain⟨e,e1,e2,h1,h2,h3⟩:=layVs_cons (r:=r9) (s:=s) (hp c (by simp));obtain⟨i1,i2⟩:=layVs_writes (l:=r9) (s:=s.drop (needC c.2.data.length)) (fun c hc=>hp c (List.mem_cons_of_mem _ hc)) (hs.drop _) (by rw[List.length_drop];omega)
  rcases h3 with⟨h0,_,h3⟩|⟨h0,_,h3⟩
  ·rw[h3,h0,Nat.zero_add]
   rw[h0,List.drop_zero] at i1 i2;exact⟨i1,i2⟩
  ·have hok:=hs.ok h0 (by omega)
   obtain⟨q1,q2⟩:=putLC_all hok;rw[h3,List.map_append,i1,List.take_add];refine⟨?_,fun x hx=>?_⟩
   ·congr 1
    exact List.map_fst_zip (by omega)
   ·rcases List.mem_append.1 hx with hx|hx
    ·exact q2 _ (List.of_mem_zip hx).2
    ·exact i2 x hx
theorem layKs_writes {N n:Nat} (IH:∀t,Fits n t→∀s,Spots N s→freshN n t≤s.length→(layT n t s).2.1.map (·.1)=s.take (freshN n t)∧∀x∈(layT n t s).2.1,x.2.length=128):∀{l:List (List UInt8×Tr)} {s:List Int},(∀c∈l,Fits n c.2)→Spots N s→(l.map fun c=>freshN n c.2).sum≤s.length→(layKs (layT n) l s).2.1.map (·.1)=s.take (l.map fun c=>freshN n c.2).sum∧∀x∈(layKs (layT n) l s).2.1,x.2.length=128
 | [],s,_,_,_=>by simp[layKs]
 | c::r9,s,hp,hs,hl=>by
  simp only[List.map_cons,List.sum_cons] at hl ⊢;have hlf:(layT n c.2 s).2.2=s.drop (freshN n c.2):=layT_left n c.2 s;rw[layKs_cons,hlf];obtain⟨g1,g2⟩:=IH c.2 (hp c (by simp)) s hs (by omega);obtain⟨i1,i2⟩:=layKs_writes IH (l:=r9) (s:=s.drop (freshN n c.2)) (fun c hc=>hp c (List.mem_cons_of_mem _ hc)) (hs.drop _) (by rw[List.length_drop];omega);refine⟨?_,fun x hx=>?_⟩
  ·show((layT n c.2 s).2.1++(layKs (layT n) r9 (s.drop (freshN n c.2))).2.1).map (·.1)=_
   rw[List.map_append,g1,i1,List.take_add]
  ·rcases List.mem_append.1 hx with hx|hx
   ·exact g2 x hx
   ·exact i2 x hx
theorem drop_take {s:List Int} {k:Nat} (h:1+k≤s.length):s.take k++[(s.drop k).headD 0]=s.take (1+k):=by
 have e:s.drop k=s[k]'(by omega)::s.drop (k+1):=List.drop_eq_getElem_cons (by omega);have e2:s.take (1+k)=s.take k++[s[k]'(by omega)]:=by rw[Nat.add_comm];exact List.take_succ_eq_append_getElem (by omega)
 rw[e,e2]
 rfl
theorem layT_writes {N:Nat}:∀(n:Nat) (t:Tr),Fits n t→∀s,Spots N s→freshN n t≤s.length→(layT n t s).2.1.map (·.1)=s.take (freshN n t)∧∀x∈(layT n t s).2.1,x.2.length=128
 | 0,t,h,_,_,_=>by obtain⟨⟨_,_,h1⟩,_⟩:=h;exact h1.elim
 | n+1,.leaf p l,h,s,hs,hl=>by
  obtain⟨⟨lo,hi,hn0,hlo⟩,hb,hsum,h0,_⟩:=h;have hne:l≠[]:=fun e=>by rw[freshN,if_pos e] at h0;exact h0 rfl
  obtain⟨_,hbv⟩:=bare_vals hb;rw[freshN,if_neg hne] at hl ⊢;rw[layT,if_neg hne];obtain⟨i1,i2⟩:=layVs_writes hbv hs (by omega);have hnb:=leaf_nodeB hlo hbv hs (by omega) hne hsum;refine⟨?_,fun x hx=>?_⟩
  ·show((layVs l s).2.1++[((layVs l s).2.2.headD 0,_)]).map (fun x:Wr=>x.1)=_
   rw[List.map_append,i1,layVs_left];exact drop_take hl
  ·rcases List.mem_append.1 hx with hx|hx
   ·exact i2 x hx
   ·rw[List.mem_singleton.1 hx]
    exact putN_len hnb
 | n+1,.node p l,h,s,hs,hl=>by
  have hks:=fits_kids h;rw[freshN] at hl ⊢;rw[layT];obtain⟨i1,i2⟩:=layKs_writes (fun t h s hs hl=>layT_writes n t h s hs hl) hks hs (by omega);have hnb:=node_nodeB h hs (by omega);refine⟨?_,fun x hx=>?_⟩
  ·show((layKs (layT n) l s).2.1++[((layKs (layT n) l s).2.2.headD 0,_)]).map (fun x:Wr=>x.1)=_
   rw[List.map_append,i1,layKs_left (fun t s=>layT_left n t s)];exact drop_take hl
  ·rcases List.mem_append.1 hx with hx|hx
   ·exact i2 x hx
   ·rw[List.mem_singleton.1 hx]
    exact putN_len hnb
theorem whole_writes {N n:Nat} {t:Tr} (h:Whole n t) (hb:Bare t) {s:List Int} (hs:Spots N s) (hl:freshN n t≤s.length):(layT n t s).2.1.map (·.1)=s.take (freshN n t)∧∀x∈(layT n t s).2.1,x.2.length=128:=by
 by_cases h0:freshN n t=0
 ·have ht:=fresh_zero h h0
  have hp0:t.page=0:=hb.page0;rw[hp0] at ht;subst ht;cases n with
  | zero=>exact h.1.1.elim
  | succ n=>rw[layT,if_pos rfl,h0];simp
 ·exact layT_writes n t (fits_whole h hb h0) s hs hl
def Wrtn (g:Nat→List UInt8) (N:Nat) (W:List Wr) (i:Nat) (d:List Rg):Prop:=∃f,RegAt d 0 N f∧Stand f (W.take i)∧∀p,(∀x∈W.take i,x.1.toNat≠p)→f p=g p
theorem Wrtn.start {d:List Rg} {N:Nat} {g:Nat→List UInt8} (h:RegAt d 0 N g) (W:List Wr):Wrtn g N W 0 d:=⟨g,h,fun x hx=>by simp at hx,fun p _=>rfl⟩
theorem Wrtn.step {g:Nat→List UInt8} {d:List Rg} {N i:Nat} {W:List Wr} (h:Wrtn g N W i d) (hn:(W.map (·.1)).Nodup) (hp:∀x∈W,0≤x.1∧x.1<N) {x:Wr} (hx:W[i]? = some x) (hb:x.2.length=128):writeE d 0 x.1 x.2=0∧Wrtn g N W (i+1) (writeD d 0 x.1 x.2):=by
 obtain⟨f,h1,h2,h3⟩:=h;have hxm:=List.mem_of_getElem? hx;have hpx:=hp x hxm;obtain⟨e,g1,_⟩:=h1.write (p:=x.1) hpx hb;obtain⟨hi,hxe⟩:=List.getElem?_eq_some_iff.1 hx;have ht:W.take (i+1)=W.take i++[x]:=by rw[List.take_succ_eq_append_getElem hi,hxe]
 have hother:∀y∈W.take i,y.1.toNat≠x.1.toNat:=fun y hy he=>by
  have hym:=List.mem_of_mem_take hy;have:=hp y hym;have he2:y.1=x.1:=by omega
  obtain⟨j,hj,hje⟩:=List.getElem_of_mem hy;rw[List.length_take] at hj;rw[List.getElem_take] at hje;have h9:=List.pairwise_iff_getElem.1 hn j i (by simp;omega) (by simpa using hi) (by omega);simp only[List.getElem_map] at h9;exact h9 (by rw[hje,hxe];exact he2)
 refine⟨e,_,g1,fun y hy=>?_,fun p hp9=>?_⟩
 ·rw[ht] at hy
  unfold upd
  rcases List.mem_append.1 hy with hy|hy
  ·rw[if_neg (hother y hy)]
   exact h2 y hy
  ·rw[List.mem_singleton.1 hy,if_pos rfl]
 ·rw[ht] at hp9
  unfold upd;rw[if_neg (fun e=>hp9 x (List.mem_append_right _ (by simp)) e.symm)];exact h3 p (fun y hy=>hp9 y (List.mem_append_left _ hy))
theorem atZ_spots {fr m N:Nat} (h:2+fr+m≤N) (hN:N≤1000):Spots N ((List.range m).map fun(k:Nat)=>((2:Int)+(fr:Int)+(k:Int))):=by
 refine⟨?_,fun p hp=>?_⟩
 ·rw[List.nodup_iff_pairwise_ne,List.pairwise_map]
  exact List.nodup_range.imp (fun h e=>h (by omega))
 ·obtain⟨k,hk,rfl⟩:=List.mem_map.1 hp
  have:=List.mem_range.1 hk;unfold pgC;simp;omega
open Go.RowKit
theorem CellsOwn.row {P:Program} {E t:TypeId} (ht:P.underlying t=some (.slice E)) (hi:RowInfo P E 4 80) {F:Nat→Prop} {n B:Nat} {w:World} {v:Value} {l:List Rc} (h:CellsOwn E F n B w v l) (hB:B≤w.heap.size) (hl:l.length≤100000) {a:Option Addr} {m c:Nat} {l2:List Rc} (hr:TabR 4 (RcOn (Gp F B v) n w) w a m c l2) (hm:m≤100000) :
 ∃v' w',(Builtin.append_ #[t,t] t #[v,.slice a m c]).run P w=.ok v' w'∧CellsOwn E F n B w' v' (l++l2)∧w.grownBy w' v.ownBlock:=by
 obtain⟨L,h1,h2⟩:=h;obtain⟨L2,r1,r2⟩:=TabR.raw hr (fun _ _ h=>h.one);obtain⟨i,z,i1,i2,i3,i4,i5⟩:=hi;have hlm:l2.length=m:=by rw[←r2.1];exact r1.1
 obtain⟨v',w',hr,ho,hg,hv⟩:=run_append_raw (P:=P) B t E i z 4 80 ht i1 i2 i3 i4 i5 (by decide) h1 r1 (by unfold maxLen;omega) (by omega) hB;refine⟨v',w',hr,⟨L++L2,?_,?_⟩,hg⟩
 ·rw[List.length_append,hlm];exact ho
 ·have hag:AgreeF (fun b=>v.ownBlock≠some b) w w':=⟨hg.size,fun b hb hlt=>hg.block b hlt (fun e=>hb e.symm)⟩
  have step:∀{cs:List Value} {y:Rc},RcOn (Gp F B v) n w cs y→RcOn (Gp F B v') n w' cs y:=fun h=>
   (h.lt.agree (hag.sub (fun b hb=>hb.1.2))).mono (fun b hb=>⟨hb.1.1,fun e=>by
    rcases hv with hv|hv
    ·rw[hv] at e;exact hb.1.2 e
    ·rw[hv] at e;have:=Option.some.inj e;have:=hb.2;omega⟩)
  exact(h2.mono (fun _ _ _ h=>step h)).append (r2.mono (fun _ _ _ h=>step h))
theorem RcOn.gp {E:TypeId} {F:Nat→Prop} {n B:Nat} {w:World} {v:Value} {l:List Rc} (h:CellsOwn E F n B w v l) (hF:∀b,F b→b<B) {cs:List Value} {y:Rc} {W:World} (hy:RcOn F n W cs y):RcOn (Gp F B v) n W cs y:=
 hy.mono (fun b hb=>⟨.inl hb,fun e=>by have:=(h.block e).1;have:=hF b hb;omega⟩)
def CellsTo (F:Nat→Prop) (n:Nat) (w:World) (l:List Rc) (e:Ending) (w':World):Prop:=∃v,e=.returned v∧CellsOwn 145 F n w.heap.size w' v l∧Below w.heap.size w w'
theorem info_Cw:RowInfo Tryz.prog 145 4 80:=row_info (by kernel_rfl)
theorem elem_Cw:Tryz.prog.underlying 25=some (.slice (Tryz.prog.elem 25)):=by kernel_rfl
theorem size_Cw (w:World):(sizeOf (Tryz.prog.elem 25)).run Tryz.prog w=.ok 4 w:=by kernel_rfl
theorem with_any {F:Nat→Prop} {n:Nat} {w:World} {a:Option Addr} {m c:Nat} {l:List Rc} {a2:Option Addr} {m2 c2:Nat} {l2:List Rc} (hF:∀b,F b→b<w.heap.size) (h:TabR 4 (RcOn F n w) w a m c l) (g:TabR 4 (RcOn F n w) w a2 m2 c2 l2) {k:Nat} (hk:k<m) (hm:m≤2000) (hm2:m2≤2000) :
 Calls Tryz.prog 129 #[.slice a m c,.int .i64 (k:Int),.slice a2 m2 c2] w (CellsTo F n w (l.take k++l2++l.drop (k+1))):=by
 obtain⟨e1,e2,e3⟩:=h.lens;obtain⟨g1,g2,g3⟩:=g.lens;have c0:CellsOwn 145 F n w.heap.size w (.slice none 0 0) []:=CellsOwn.nil _ _ _ _ _;obtain⟨v1,w1,hr1,c1,hg1⟩:=c0.row Tryz.underlying25 info_Cw (Nat.le_refl _) (by simp) (TabR.mono (TabR.tk h (show k≤m by omega)) (fun _ _ h=>RcOn.gp c0 hF h)) (by omega);have hb1:Below w.heap.size w w1:=(Below.refl _ _).grown hg1 (Nat.le_refl _) (fun g hg=>by cases hg);have r2:TabR 4 (RcOn (Gp F w.heap.size v1) n w1) w1 a2 m2 c2 l2:=TabR.mono (TabR.below (Nat.le_refl _) hb1 g) (fun cs y hy=>RcOn.gp c1 hF (RcOn.below hy hb1));have l1:([]++l.take k).length≤100000:=by simp;omega
 obtain⟨v2,w2,hr2,c2',hg2⟩:=c1.row Tryz.underlying25 info_Cw hb1.size l1 r2 (by omega);have hb2:Below w.heap.size w w2:=hb1.grown hg2 hb1.size (fun g hg=>(c1.block hg).1);obtain⟨a3,ha3,hsl⟩:=slice_from elem_Cw size_Cw a m c (k+1) (by omega);have hrow:TabR 4 (RcOn F n w) w a3 (m-(k+1)) (c-(k+1)) (l.drop (k+1)):=by rw[ha3];exact TabR.dp h (show k+1≤m by omega)
 have r3:TabR 4 (RcOn (Gp F w.heap.size v2) n w2) w2 a3 (m-(k+1)) (c-(k+1)) (l.drop (k+1)):=TabR.mono (TabR.below (Nat.le_refl _) hb2 hrow) (fun cs y hy=>RcOn.gp c2' hF (RcOn.below hy hb2));have l3:([]++l.take k++l2).length≤100000:=by simp;omega
 obtain⟨v3,w3,hr3,c3,hg3⟩:=c2'.row Tryz.underlying25 info_Cw hb2.size l3 r3 (by omega);have hb3:Below w.heap.size w w3:=hb2.grown hg3 hb2.size (fun g hg=>(c2'.block hg).1);have HE:Hid (CellsTo F n w (l.take k++l2++l.drop (k+1)) (.returned v3) w3):=Hd ⟨v3,rfl,by simpa using c3,hb3⟩;have hkc:k≤c:=by omega
 rw[show((k+1:Nat):Int)=(k:Int)+1 by omega] at hsl;clear c0 c1 c2' c3 r2 r3 l1 l3 hb1 hb2 hb3 hg1 hg2 hg3 ha3 hrow h g hF e1 g1;go_enter Tryz.func129,Tryz.ntmps129;go_upto_region 3 with(at_builtin;refine wpList_append_run rfl _ _ _ _ rfl rfl rfl hr1 ?_)
 go_upto_region 4 with(at_builtin;refine wpList_append_run rfl _ _ _ _ rfl rfl rfl hr2 ?_)
 go_wp2_with (at_builtin;refine wpList_append_run rfl _ _ _ _ rfl rfl rfl hr3 ?_)
 go_ret;exact HE.out
open Go.RowKit
def CellsF (E:TypeId) (F:Nat→Prop) (n B:Nat) (w:World) (v:Value) (l:List Rc):Prop:=∃L:List (Cl 4),w.ownsRow B E 4 v l.length (flatC L)∧Tells (RcOn F n w) L l
theorem CellsF.nil (E:TypeId) (F:Nat→Prop) (n B:Nat) (w:World):CellsF E F n B w (.slice none 0 0) []:=⟨[],own_nil w E 4 B,Tells.nil⟩
theorem CellsF.below {E:TypeId} {F:Nat→Prop} {n B:Nat} {w w':World} {v:Value} {l:List Rc} (h:CellsF E F n B w v l) (hb:Below w.heap.size w w'):CellsF E F n B w' v l:=by
 obtain⟨L,h1,h2⟩:=h;exact⟨L,own_held h1 hb,h2.mono (fun _ _ _ h=>h.below hb)⟩
theorem CellsF.set {E:TypeId} {F:Nat→Prop} {n B:Nat} {w:World} {v:Value} {l:List Rc} (h:CellsF E F n B w v l) {p:Addr} (u:Value) (hp:v.ownBlock≠some p.block) (hF:¬F p.block):CellsF E F n B (w.setCell p u) v l:=by
 obtain⟨L,h1,h2⟩:=h;exact⟨L,own_set h1 p u hp,h2.mono (fun _ _ _ h=>h.agree (AgreeF.set ⟨Nat.le_refl _,fun _ _ _=>rfl⟩ (.inl hF)))⟩
theorem CellsF.ge {E:TypeId} {F:Nat→Prop} {n B:Nat} {w:World} {v:Value} {l:List Rc} (h:CellsF E F n B w v l) {b:Nat} (hb:v.ownBlock=some b):B≤b∧b<w.heap.size:=by
 exact qbb2c82
theorem CellsF.own {E:TypeId} {F:Nat→Prop} {n B:Nat} {w:World} {v:Value} {l:List Rc} (h:CellsF E F n B w v l) (hF:∀b,F b→b<B):CellsOwn E F n B w v l:=by
 have hge:=fun b hb=>(h.ge (b:=b) hb).1
 obtain⟨L,h1,h2⟩:=h;exact⟨L,h1,h2.mono (fun _ _ _ h=>h.mono (fun b hb=>⟨.inl hb,fun e=>by have:=hge b e;have:=hF b hb;omega⟩))⟩
theorem CellsF.row {P:Program} {E t:TypeId} (ht:P.underlying t=some (.slice E)) (hi:RowInfo P E 4 80) {F:Nat→Prop} {n B:Nat} {w:World} {v:Value} {l:List Rc} (h:CellsF E F n B w v l) (hB:B≤w.heap.size) (hF:∀b,F b→b<B) (hl:l.length≤100000) {a:Option Addr} {m c:Nat} {l2:List Rc} (hr:TabR 4 (RcOn F n w) w a m c l2) (hm:m≤100000) :
 ∃v' w',(Builtin.append_ #[t,t] t #[v,.slice a m c]).run P w=.ok v' w'∧CellsF E F n B w' v' (l++l2)∧w.grownBy w' v.ownBlock:=by
 have hge:=fun b hb=>(h.ge (b:=b) hb).1
 obtain⟨L,h1,h2⟩:=h;obtain⟨L2,r1,r2⟩:=TabR.raw hr (fun _ _ h=>h.one);obtain⟨i,z,i1,i2,i3,i4,i5⟩:=hi;have hlm:l2.length=m:=by rw[←r2.1];exact r1.1
 obtain⟨v',w',hr,ho,hg,hv⟩:=run_append_raw (P:=P) B t E i z 4 80 ht i1 i2 i3 i4 i5 (by decide) h1 r1 (by unfold maxLen;omega) (by omega) hB;refine⟨v',w',hr,⟨L++L2,?_,?_⟩,hg⟩
 ·rw[List.length_append,hlm];exact ho
 ·have hag:AgreeF F w w':=⟨hg.size,fun b hb hlt=>hg.block b hlt (fun e=>by have:=hge b e.symm;have:=hF b hb;omega)⟩
  exact(h2.mono (fun _ _ _ h=>h.agree hag)).append (r2.mono (fun _ _ _ h=>h.agree hag))
theorem CellsF.key0 {E:TypeId} {F:Nat→Prop} {n B:Nat} {w:World} {g m c:Nat} {y:Rc} {r:List Rc} (h:CellsF E F n B w (.slice (some ⟨g,0,none⟩) m c) (y::r)) (hF:¬F g) (key:List UInt8) :
 CellsF E F n B (w.setCell ⟨g,0,none⟩ (.string (strOf key))) (.slice (some ⟨g,0,none⟩) m c) (⟨key,y.val,y.kid⟩::r):=by
 obtain⟨L,h1,h2⟩:=h;have hag:AgreeF F w (w.setCell ⟨g,0,none⟩ (.string (strOf key))):=AgreeF.set ⟨Nat.le_refl _,fun _ _ _=>rfl⟩ (.inl hF);cases L with
 | nil=>have:=h2.1;simp at this
 | cons x L'=>
  have hx:RcOn F n w x.1 y:=h2.2 0 x y rfl rfl;obtain⟨pa,pn,pc,ka,kn,kc,ex,k1,k2,k3,k4⟩:=hx;have hx':RcOn F n w [.string (strOf key),.string (strOf y.val.data),.slice pa pn pc,.slice ka kn kc] ⟨key,y.val,y.kid⟩:=⟨pa,pn,pc,ka,kn,kc,rfl,k1,k2,k3,k4⟩
  have hlen:(y::r).length=m:=by
   rcases h1.2 with⟨e,_⟩|⟨g',cap,cur,e,_⟩
   ·cases e
   ·cases e;rfl
  have g0:=own_put (by rw[hlen] at h1;exact h1) 0 (.string (strOf key)) (by rw[←hlen];simp);refine⟨⟨_,hx'.len,hx'.one⟩::L',?_,Tells.cons (hx'.agree hag) ?_⟩
  ·have e1:flatC (x::L')=x.1++flatC L':=rfl
   have e2:flatC ((⟨[.string (strOf key),.string (strOf y.val.data),.slice pa pn pc,.slice ka kn kc],hx'.len,hx'.one⟩:Cl 4)::L')=[.string (strOf key),.string (strOf y.val.data),.slice pa pn pc,.slice ka kn kc]++flatC L':=rfl;rw[e2];rw[e1,ex] at g0;rw[show(⟨key,y.val,y.kid⟩::r:List Rc).length=m by rw[←hlen];rfl];exact g0
  ·refine⟨by have:=h2.1;simpa using this,fun i a b ha hb=>?_⟩
   exact(h2.2 (i+1) a b (by simpa using ha) (by simpa using hb)).agree hag
theorem cells_part (A:Nat) (kid:Tr):cellsR (partT A kid).1=(cellsR kid).take A∧(partT A kid).1.page=0∧(partT A kid).1.isLeaf=kid.isLeaf∧(partT A kid).2.1.page=0∧(partT A kid).2.1.isLeaf=kid.isLeaf:=by
 cases kid<;>simp[partT,cellsR,Tr.page,Tr.isLeaf]
theorem cells_part_leaf (A:Nat) (p:Int) (l:List (List UInt8×Tv)):cellsR (partT A (.leaf p l)).2.1=(cellsR (.leaf p l)).drop A:=by simp[partT,cellsR]
theorem cells_part_node (A:Nat) (p:Int) (l:List (List UInt8×Tr)) {y:Rc} {r:List Rc} (h:(cellsR (.node p l)).drop A=y::r):cellsR (partT A (.node p l)).2.1=⟨[],y.val,y.kid⟩::r:=by
 simp only[partT,cellsR] at h ⊢;rw[←List.map_drop] at h;cases hd:l.drop A with
 | nil=>rw[hd] at h;cases h
 | cons c q=>
  rw[hd] at h;cases h
  rfl
theorem part_key (A:Nat) (kid:Tr) {y:Rc} {r:List Rc} (h:(cellsR kid).drop A=y::r):(partT A kid).2.2=y.key:=by
 have hk:(cellsR kid)[A]? = some y:=by
  have:=congrArg (fun l=>l[0]?) h;simpa[List.getElem?_drop] using this
 cases kid with
 | leaf p l=>
  rw[cellsR_leaf] at hk;obtain⟨c,h1,h2⟩:=Option.map_eq_some_iff.1 hk;subst h2;simp[partT,keyAt,h1]
 | node p l=>
  rw[cellsR_node] at hk;obtain⟨c,h1,h2⟩:=Option.map_eq_some_iff.1 hk;subst h2;simp[partT,keyAt,h1]
open Go.RowKit
theorem agr {F:Nat→Prop} (w:World):AgreeF F w w:=⟨Nat.le_refl _,fun _ _ _=>rfl⟩
theorem agal {F:Nat→Prop} {a w:World} {o:Obj} (h:AgreeF F a w):AgreeF F a (w.alloc o):=h.trans (.of_below (Below.al (Below.refl _ _)))
theorem agdr {F:Nat→Prop} {a w:World} (h:AgreeF F a w):AgreeF F a w.drew:=h
theorem agst {r:Nat} {a w:World} {i:Nat} {u:Value} (h:AgreeF (fun b=>b≠r) a w):AgreeF (fun b=>b≠r) a (w.setCell ⟨r,i,none⟩ u):=h.set (.inl fun h=>h rfl)
theorem one_kid {G:Nat→Prop} {n:Nat} {W:World} {b:Nat} {x0 x1 x2:Value} {t:Tr} (hx:BoxAt W b #[x0,x1,x2]) (h:RNodeOn G n W [x0,x1,x2] t):TabR 3 (RNodeOn G n W) W (some ⟨b,0,none⟩) 1 1 [t]:=by
 have hr:=raw_box (w:=W) (b:=b) (L:=[(⟨[x0,x1,x2],rfl,h.one⟩:Cl 3)]) hx (by show 1≤1000;omega);exact Raw.tab hr (Tells.one h)
theorem cell_kid {G:Nat→Prop} {n:Nat} {W:World} {b:Nat} {x0 x1 x2:Value} {t:Tr} (key:List UInt8) (hx:BoxAt W b #[x0,x1,x2]) (h:RNodeOn G n W [x0,x1,x2] t) (hb:G b) :
 RcOn G n W [.string (strOf key),.string (strOf []),.slice none 0 0,.slice (some ⟨b,0,none⟩) 1 1] ⟨key,⟨[],[]⟩,some t⟩:=
 ⟨none,0,0,some ⟨b,0,none⟩,1,1,rfl,⟨rfl,Nat.le_refl _,by unfold maxLen;omega,fun _=>rfl,.inl rfl⟩,.inl rfl,one_kid hx h,.inr fun b' off e=>by cases e;exact hb⟩
theorem two_cells {G:Nat→Prop} {n:Nat} {W:World} {z:Nat} {u0 u1 u2 u3 v0 v1 v2 v3:Value} {y y':Rc} (hz:BoxAt W z #[u0,u1,u2,u3,v0,v1,v2,v3]) (h:RcOn G n W [u0,u1,u2,u3] y) (g:RcOn G n W [v0,v1,v2,v3] y') :
 TabR 4 (RcOn G n W) W (some ⟨z,0,none⟩) 2 2 [y,y']:=by
 have hr:=raw_box (w:=W) (b:=z) (L:=[(⟨[u0,u1,u2,u3],rfl,h.one⟩:Cl 4),⟨[v0,v1,v2,v3],rfl,g.one⟩]) hz (by show 2≤1000;omega);exact Raw.tab hr (Tells.cons h (Tells.one g))
theorem one_cell {G:Nat→Prop} {n:Nat} {W:World} {z:Nat} {u0 u1 u2 u3:Value} {y:Rc} (hz:BoxAt W z #[u0,u1,u2,u3]) (h:RcOn G n W [u0,u1,u2,u3] y) :
 TabR 4 (RcOn G n W) W (some ⟨z,0,none⟩) 1 1 [y]:=by
 have hr:=raw_box (w:=W) (b:=z) (L:=[(⟨[u0,u1,u2,u3],rfl,h.one⟩:Cl 4)]) hz (by show 1≤1000;omega);exact Raw.tab hr (Tells.one h)
theorem split_cells {l:List (List UInt8×Tr)} {k A:Nat} {kid:Tr} {xk:List UInt8} (hx:l[k]? = some (xk,kid)) (hA:atF (sizesT kid)=(A:Int)) (h0:0<A) (p:Int) :
 ∃m,splitT l k=some m∧cellsR (.node 0 m)=(cellsR (.node p l)).take k++[⟨xk,⟨[],[]⟩,some (partT A kid).1⟩,⟨(partT A kid).2.2,⟨[],[]⟩,some (partT A kid).2.1⟩]++(cellsR (.node p l)).drop (k+1):=by
 have hkey:keyAt l k=xk:=by unfold keyAt;rw[hx];rfl
 have hkd:kidAt l k=kid:=by unfold kidAt;rw[hx];rfl
 refine⟨l.take k++((xk,(partT A kid).1)::((partT A kid).2.2,(partT A kid).2.1)::l.drop (k+1)),?_,?_⟩
 ·unfold splitT
  rw[hkd,hkey,hA,if_neg (by omega),Int.toNat_natCast]
 ·simp[cellsR,List.map_take,List.map_drop]
def RowTo (G:Nat→Prop) (n:Nat) (wc:World) (t:Tr) (m:Nat) (e:Ending) (w':World):Prop:=
 ∃a d,e=.returned (.slice a m d)∧RNodeOn G (n+1) w' [.int .i64 0,.bool t.isLeaf,.slice a m d] t∧Below wc.heap.size wc w'
theorem row_to {G:Nat→Prop} {n:Nat} {wc W w':World} {e:Ending} {t:Tr} {m:Nat} {cs:List Rc} (hp:t.page=0) (hm:cntT t=m) (hl:cellsR t=cs) (hb:Below wc.heap.size wc W) (hG:∀b,W.heap.size≤b→G b)
 (h:CellsTo (fun x=>G x∧x<W.heap.size) n W cs e w'):RowTo G n wc t m e w':=by
 subst hl hm;obtain⟨v,rfl,h1,h2⟩:=h;obtain⟨a,d,rfl,_,_,k1,k2⟩:=h1.sl;rw[cellsR_len] at k1 k2 ⊢;refine⟨a,d,rfl,?_,below_via hb h2⟩;have:=RNodeOn.mk (t:=t) (F:=G) (TabR.mono k1 (fun _ _ h=>h.mono (fun b hb=>by
  rcases hb.1 with hb|hb
  ·exact hb.1
  ·exact hG b hb))) (k2.mono hG)
 rw[hp] at this;exact this
theorem with_to {G:Nat→Prop} {n:Nat} {wc W:World} {a:Option Addr} {m c:Nat} {L:List Rc} {a2:Option Addr} {m2 c2 k:Nat} {l2:List Rc} {t:Tr} {q:Nat} (hp:t.page=0) (hq:cntT t=q) (hl:cellsR t=L.take k++l2++L.drop (k+1)) (hb:Below wc.heap.size wc W) (hG:∀b,wc.heap.size≤b→G b)
 (h:TabR 4 (RcOn G n W) W a m c L) (g:TabR 4 (RcOn G n W) W a2 m2 c2 l2) (hk:k<m) (hm:m≤2000) (hm2:m2≤2000) :
 Calls Tryz.prog 129 #[.slice a m c,.int .i64 (k:Int),.slice a2 m2 c2] W (RowTo G n wc t q):=
 (with_any (fun _ h=>h.2) (TabR.mono h (fun _ _ hy=>RcOn.lt hy)) (TabR.mono g (fun _ _ hy=>RcOn.lt hy)) hk hm hm2).mono fun _ _ h=>row_to hp hq hl hb (fun b h=>hG b (Nat.le_trans hb.size h)) h
theorem with_two {G:Nat→Prop} {n:Nat} {wc W:World} {a:Option Addr} {m c k:Nat} {L:List Rc} {t:Tr} {q:Nat} (hp:t.page=0) (hq:cntT t=q) (hb:Below wc.heap.size wc W) (hG:∀b,wc.heap.size≤b→G b) (h:TabR 4 (RcOn G n wc) wc a m c L) (hk:k<m) (hm:m≤2000) {ra rb z:Nat} {xk key:List UInt8} {TA TB:Tr} {x0 x1 x2 y0 y1 y2:Value} {v0:_}
 (hl:cellsR t=L.take k++[⟨xk,⟨[],[]⟩,some TA⟩,⟨key,⟨[],[]⟩,some TB⟩]++L.drop (k+1)) (hv:v0=strOf []) (g1:RNodeOn G n wc [x0,x1,x2] TA) (g2:RNodeOn G n wc [y0,y1,y2] TB) (r1:wc.heap.size≤ra) (r2:wc.heap.size≤rb)
 (hA:BoxAt W ra #[x0,x1,x2]) (hB:BoxAt W rb #[y0,y1,y2]) (hz:BoxAt W z #[.string (strOf xk),.string v0,.slice none 0 0,.slice (some ⟨ra,0,none⟩) 1 1,.string (strOf key),.string v0,.slice none 0 0,.slice (some ⟨rb,0,none⟩) 1 1]) :
 Calls Tryz.prog 129 #[.slice a m c,.int .i64 (k:Int),.slice (some ⟨z,0,none⟩) 2 2] W (RowTo G n wc t q):=by
 subst hv;exact with_to hp hq hl hb hG (TabR.mono (TabR.below (Nat.le_refl _) hb h) (fun _ _ hy=>RcOn.below hy hb)) (two_cells hz (cell_kid xk hA (g1.below hb) (hG _ r1)) (cell_kid key hB (g2.below hb) (hG _ r2))) hk hm (by omega)
theorem with_one {G:Nat→Prop} {n:Nat} {wc W:World} {a:Option Addr} {m c k:Nat} {L:List Rc} {t:Tr} {q:Nat} (hp:t.page=0) (hq:cntT t=q) (hb:Below wc.heap.size wc W) (hG:∀b,wc.heap.size≤b→G b) (h:TabR 4 (RcOn G n wc) wc a m c L) (hk:k<m) (hm:m≤2000) {ra z:Nat} {xk:List UInt8} {TA:Tr} {x0 x1 x2:Value} {v0:_}
 (hl:cellsR t=L.take k++[⟨xk,⟨[],[]⟩,some TA⟩]++L.drop (k+1)) (hv:v0=strOf []) (g1:RNodeOn G n wc [x0,x1,x2] TA) (r1:wc.heap.size≤ra)
 (hA:BoxAt W ra #[x0,x1,x2]) (hz:BoxAt W z #[.string (strOf xk),.string v0,.slice none 0 0,.slice (some ⟨ra,0,none⟩) 1 1]) :
 Calls Tryz.prog 129 #[.slice a m c,.int .i64 (k:Int),.slice (some ⟨z,0,none⟩) 1 1] W (RowTo G n wc t q):=by
 subst hv;exact with_to hp hq hl hb hG (TabR.mono (TabR.below (Nat.le_refl _) hb h) (fun _ _ hy=>RcOn.below hy hb)) (one_cell hz (cell_kid xk hA (g1.below hb) (hG _ r1))) hk hm (by omega)
theorem RNodeOn.put3 {G:Nat→Prop} {n:Nat} {W:World} {cs:List Value} {t:Tr} (h:RNodeOn G n W cs t) {r:Nat} (hr:¬G r) (u0 u1 u2:Value):RNodeOn G n (((W.setCell ⟨r,0,none⟩ u0).setCell ⟨r,1,none⟩ u1).setCell ⟨r,2,none⟩ u2) cs t:=
 h.agree (((AgreeF.set (AgreeF.set (AgreeF.set ⟨Nat.le_refl _,fun _ _ _=>rfl⟩ (.inl hr)) (.inl hr)) (.inl hr))))
open Go.RowKit
def firstRc (key:List UInt8) (lf:Bool):List Rc→List Rc
 | []=>[]
 | y::r=>if lf then y::r else ⟨key,y.val,y.kid⟩::r
theorem firstRc_len (key:List UInt8) (lf:Bool) (L:List Rc):(firstRc key lf L).length=L.length:=by
 cases L with
 | nil=>rfl
 | cons y r=>cases lf<;>rfl
theorem firstRc_at (key:List UInt8) (lf:Bool) (L:List Rc) (i:Nat) {y:Rc} (h:L[i]? = some y):(firstRc key lf L)[i]? = some (if i=0∧lf=false then ⟨key,y.val,y.kid⟩ else y):=by
 cases L with
 | nil=>simp at h
 | cons x r=>
  cases i with
  | zero=>simp at h;subst h;cases lf<;>simp[firstRc]
  | succ i=>simp at h;cases lf<;>simp[firstRc,h]
theorem firstRc_succ (key:List UInt8) (lf:Bool) (L:List Rc) (i:Nat) {y:Rc} (h:L[i]? = some y):(firstRc key lf L).take (i+1)=(firstRc key lf L).take i++[if i=0∧lf=false then ⟨key,y.val,y.kid⟩ else y]:=by
 rw[List.take_add_one,firstRc_at key lf L i h];rfl
theorem join_cells {key:List UInt8} {a b:Tr} (h:a.isLeaf=b.isLeaf):cellsR (joinT key a b)=cellsR a++firstRc key b.isLeaf (cellsR b)∧(joinT key a b).page=0∧(joinT key a b).isLeaf=a.isLeaf:=by
 cases a with
 | leaf p l=>
  cases b with
  | leaf q m=>exact⟨by cases m<;>simp[joinT,cellsR,firstRc,Tr.isLeaf],rfl,rfl⟩
  | node q m=>cases h
 | node p l=>
  cases b with
  | leaf q m=>cases h
  | node q m=>exact⟨by cases m<;>simp[joinT,cellsR,firstRc,Tr.isLeaf,firstK],rfl,rfl⟩
theorem join_rows {l:List (List UInt8×Tr)} {j:Nat} (hj:j+1<l.length) (p:Int) :
 cellsR (.node 0 (l.take (j+1)++l.drop (j+2)))=(cellsR (.node p l)).take (j+1)++[]++(cellsR (.node p l)).drop (j+1+1) ∧
 cellsR (.node 0 (joined l j))=(cellsR (.node 0 (l.take (j+1)++l.drop (j+2)))).take j++[⟨keyAt l j,⟨[],[]⟩,some (joinT (keyAt l (j+1)) (kidAt l j) (kidAt l (j+1)))⟩]++(cellsR (.node 0 (l.take (j+1)++l.drop (j+2)))).drop (j+1) ∧
 (l.take (j+1)++l.drop (j+2)).length+1=l.length∧(joined l j).length+1=l.length:=by
 have h1:(l.take (j+1)).length=j+1:=by simp;omega
 have h2:(l.take (j+1)++l.drop (j+2)).take j=l.take j:=by rw[List.take_append_of_le_length (by omega),List.take_take,Nat.min_eq_left (by omega)]
 have h3:(l.take (j+1)++l.drop (j+2)).drop (j+1)=l.drop (j+2):=by rw[List.drop_append_of_le_length (by omega),List.drop_eq_nil_of_le (by omega),List.nil_append]
 refine⟨by simp[cellsR,List.map_take,List.map_drop],?_,by simp;omega,by unfold joined;simp;omega⟩;simp only[cellsR];rw[←List.map_take,←List.map_drop,h2,h3];simp[joined]
theorem CellsF.append {P:Program} {E t:TypeId} (ht:P.underlying t=some (.slice E)) (hi:RowInfo P E 4 80) {F:Nat→Prop} {n B:Nat} {w:World} {v:Value} {l:List Rc} (h:CellsF E F n B w v l) (hB:B≤w.heap.size) (hF:∀b,F b→b<B) (hl:l.length≤100000) {cs:List Value} {y:Rc} (hy:RcOn F n w cs y) :
 ∃v' w',(Builtin.append_ #[t,t] t #[v,.slice (some ⟨w.heap.size,0,none⟩) 1 1]).run P (w.alloc (.cells cs.toArray E))=.ok v' w'∧CellsF E F n B w' v' (l++[y])∧w.grownBy w' v.ownBlock:=by
 have hge:=fun b hb=>(h.ge (b:=b) hb).1
 obtain⟨L,h1,h2⟩:=h;obtain⟨i,z,i1,i2,i3,i4,i5⟩:=hi;obtain⟨v',w',hr,ho,hg,hv⟩:=run_append_new (P:=P) B t E i z 4 80 ht i1 i2 i3 i4 i5 (by decide) h1 cs.toArray (by simpa using hy.len) (by simpa using hy.one) (by unfold maxLen;omega) (by omega) hB;refine⟨v',w',hr,⟨L++[⟨cs,hy.len,hy.one⟩],?_,?_⟩,hg⟩
 ·have e:flatC (L++[⟨cs,hy.len,hy.one⟩])=flatC L++cs:=by rw[flatC_append];exact congrArg (flatC L++·) (List.append_nil cs)
  rw[e,List.length_append];exact ho
 ·have hag:AgreeF F w w':=⟨hg.size,fun b hb hlt=>hg.block b hlt (fun e=>by have:=hge b e.symm;have:=hF b hb;omega)⟩
  exact(h2.mono (fun _ _ _ h=>h.agree hag)).append (Tells.one (hy.agree hag))
theorem rnode_end {F G:Nat→Prop} {n:Nat} {w w':World} {T:Tr} {r:Nat} {p:Int} {lf:Bool} {a:Option Addr} {m d:Nat} (hr:w.heap.size≤r) (hG:¬G r) (hGF:∀b,G b→Fr F w b) (h:RNodeOn G n w' [.int .i64 p,.bool lf,.slice a m d] T) (hb:Below w.heap.size w w') :
 RNodeTo F n w T (.returned (.agg #[.int .i64 p,.bool lf,.slice a m d])) (((w'.setCell ⟨r,0,none⟩ (.int .i64 p)).setCell ⟨r,1,none⟩ (.bool lf)).setCell ⟨r,2,none⟩ (.slice a m d)):=
 ⟨[.int .i64 p,.bool lf,.slice a m d],rfl,(h.put3 hG _ _ _).mono hGF,((hb.setCell (by simpa using hr) _).setCell (by simpa using hr) _).setCell (by simpa using hr) _⟩
theorem rend {F G:Nat→Prop} {n:Nat} {w w':World} {T:Tr} {r:Nat} {p:Int} {lf:Bool} {a:Option Addr} {m d:Nat} {x0 x1 x2:Value} (hx:Boxes w' [(r,[x0,x1,x2])]) (hr:w.heap.size≤r) (hG:¬G r) (hGF:∀b,G b→Fr F w b) (h:RNodeOn G n w' [.int .i64 p,.bool lf,.slice a m d] T) (hb:Below w.heap.size w w') :
 (((w'.setCell ⟨r,0,none⟩ (.int .i64 p)).setCell ⟨r,1,none⟩ (.bool lf)).setCell ⟨r,2,none⟩ (.slice a m d)).cell? ⟨r,0,none⟩=some (.int .i64 p) ∧
 (((w'.setCell ⟨r,0,none⟩ (.int .i64 p)).setCell ⟨r,1,none⟩ (.bool lf)).setCell ⟨r,2,none⟩ (.slice a m d)).cell? ⟨r,1,none⟩=some (.bool lf) ∧
 (((w'.setCell ⟨r,0,none⟩ (.int .i64 p)).setCell ⟨r,1,none⟩ (.bool lf)).setCell ⟨r,2,none⟩ (.slice a m d)).cell? ⟨r,2,none⟩=some (.slice a m d) ∧
 Hid (RNodeTo F n w T (.returned (.agg #[.int .i64 p,.bool lf,.slice a m d])) (((w'.setCell ⟨r,0,none⟩ (.int .i64 p)).setCell ⟨r,1,none⟩ (.bool lf)).setCell ⟨r,2,none⟩ (.slice a m d))):=by
 have hxe:=((hx.put 0 (.int .i64 p) (by simp)).put 1 (.bool lf) (by simp)).put 2 (.slice a m d) (by simp);exact⟨hxe.cell 0 0 rfl rfl,hxe.cell 0 1 rfl rfl,hxe.cell 0 2 rfl rfl,Hd (rnode_end hr hG hGF h hb)⟩
theorem RNodeTo.split {F:Nat→Prop} {n:Nat} {w w':World} {t:Tr} {e:Ending} (h:RNodeTo F n w t e w'):∃p l a m d,e=.returned (.agg #[.int .i64 p,.bool l,.slice a m d])∧RNodeOn (Fr F w) n w' [.int .i64 p,.bool l,.slice a m d] t∧Below w.heap.size w w':=by
 obtain⟨cs,rfl,h1,h2⟩:=h;cases n with
 | zero=>exact h1.elim
 | succ n=>
  obtain⟨a,c,rfl,_⟩:=h1.at;exact⟨_,_,_,_,_,rfl,h1,h2⟩
theorem RNodeOn.row {G:Nat→Prop} {n:Nat} {w:World} {x y:Value} {a:Option Addr} {m d:Nat} {t:Tr} (h:RNodeOn G (n+1) w [x,y,.slice a m d] t) (hm:cntT t=m):TabR 4 (RcOn G n w) w a m d (cellsR t):=by
 obtain⟨a',d',e,h1,_⟩:=h.at;simp only[List.cons.injEq,Value.slice.injEq,and_true] at e;obtain⟨_,_,rfl,_,rfl⟩:=e;rw[hm] at h1;exact h1
theorem RNodeOn.kid {F:Nat→Prop} {n:Nat} {w:World} {a:Option Addr} {m c:Nat} {p:Int} {l:List (List UInt8×Tr)} (h:TabR 4 (RcOn F n w) w a m c (cellsR (.node p l))) {k:Nat} (hk:k<m) :
 ∃b off bk ok kcs pa pn pc kc,a=some ⟨b,off,none⟩∧b<w.heap.size∧bk<w.heap.size∧RNodeOn F n w kcs (kidAt l k)∧w.cell? ⟨b,off+k*4,none⟩=some (.string (strOf (keyAt l k)))∧w.cell? ⟨b,off+k*4+1,none⟩=some (.string (strOf []))∧w.cell? ⟨b,off+k*4+2,none⟩=some (.slice pa pn pc) ∧
  w.cell? ⟨b,off+k*4+3,none⟩=some (.slice (some ⟨bk,ok,none⟩) 1 kc)∧(∀j v,kcs[j]? = some v→w.cell? ⟨bk,ok+j,none⟩=some v)∧1≤kc∧kc≤9223372036854775807:=by
 obtain⟨b,off,y,pa,pn,pc,ka,kn,kc,rfl,hbb,hy,_,_,_,hkid,hfk,c0,c1,c2,c3⟩:=RNodeOn.cell h hk;rw[cellsR_node] at hy;obtain⟨x,hx1,hx2⟩:=Option.map_eq_some_iff.1 hy;subst hx2;have s1:=hkid.lens;obtain rfl:kn=1:=s1.1.symm;obtain⟨bk,ok,kd,kcs,rfl,hbk,hyk,_,hon,hck⟩:=TabR.at hkid (show 0<1 by omega);cases hyk;have hkey:keyAt l k=x.1:=by unfold keyAt;rw[hx1];rfl
 have hkd:kidAt l k=x.2:=by unfold kidAt;rw[hx1];rfl
 refine⟨b,off,bk,ok,kcs,pa,pn,pc,kc,rfl,hbb,hbk,by rw[hkd];exact hon,by rw[hkey];exact c0,c1,c2,c3,fun j v hv=>by simpa using hck j v hv,s1.2.1,s1.2.2⟩
open Go.RowKit
theorem IsLcAt {w:World} {a:Option Addr} {n c:Nat} {l:List (List UInt8×Tv)} (h:TabR 4 (IsLc w) w a n c l) {k:Nat} (hk:k<n) :
 ∃b off y,a=some ⟨b,off,none⟩∧b<w.heap.size∧l[k]? = some y∧w.cell? ⟨b,off+k*4,none⟩=some (.string (strOf y.1))∧w.cell? ⟨b,off+k*4+1,none⟩=some (.string (strOf y.2.data)):=by
 obtain⟨b,off,y,cs,e1,e2,e3,_,⟨pa,pn,pc,ka,kc,rfl,_⟩,e6⟩:=TabR.at h hk;exact⟨b,off,y,e1,e2,e3,e6 0 _ rfl,e6 1 _ rfl⟩
theorem IsNcAt {n:Nat} {w:World} {a:Option Addr} {m c:Nat} {l:List (List UInt8×Tr)} (h:TabR 4 (IsNc n w) w a m c l) {k:Nat} (hk:k<m) :
 ∃b off y,a=some ⟨b,off,none⟩∧b<w.heap.size∧l[k]? = some y∧w.cell? ⟨b,off+k*4,none⟩=some (.string (strOf y.1)):=by
 obtain⟨b,off,y,cs,e1,e2,e3,_,⟨pa,pc,ka,kc,rfl,_⟩,e6⟩:=TabR.at h hk;exact⟨b,off,y,e1,e2,e3,e6 0 _ rfl⟩
theorem RIn.node {n:Nat} {w:World} {cs:List Value} {p:Int} {l:List (List UInt8×Tr)} (h:RIn (n+1) w cs (.node p l)):∃a m c,cs=[.int .i64 p,.bool false,.slice a m c]∧TabR 4 (IsNc n w) w a m c l:=h
theorem RIn.leaf {n:Nat} {w:World} {cs:List Value} {p:Int} {l:List (List UInt8×Tv)} (h:RIn (n+1) w cs (.leaf p l)):∃a m c,cs=[.int .i64 p,.bool true,.slice a m c]∧TabR 4 (IsLc w) w a m c l:=h
theorem RIn.any {n:Nat} {w:World} {cs:List Value} {t:Tr} (h:RIn (n+1) w cs t):∃a c,cs=[.int .i64 t.page,.bool t.isLeaf,.slice a (cntT t) c]∧cntT t≤c∧c≤9223372036854775807∧t.keys.length=cntT t ∧
 ∀k,k<cntT t→∃b off,a=some ⟨b,off,none⟩∧b<w.heap.size∧w.cell? ⟨b,off+k*4,none⟩=some (.string (strOf (t.keys[k]?.getD []))):=by
 cases t with
 | leaf p l=>
  obtain⟨a,m,c,rfl,h1⟩:=h.leaf;obtain⟨e1,e2,e3⟩:=h1.lens;subst e1;refine⟨a,c,rfl,e2,e3,by simp[Tr.keys,keysOf,cntT],fun k hk=>?_⟩;obtain⟨b,off,y,f1,f2,f3,f4,_⟩:=IsLcAt h1 hk;exact⟨b,off,f1,f2,by rw[f4];simp[Tr.keys,keysOf,f3]⟩
 | node p l=>
  obtain⟨a,m,c,rfl,h1⟩:=h.node;obtain⟨e1,e2,e3⟩:=h1.lens;subst e1;refine⟨a,c,rfl,e2,e3,by simp[Tr.keys,keysOf,cntT],fun k hk=>?_⟩;obtain⟨b,off,y,f1,f2,f3,f4⟩:=IsNcAt h1 hk;exact⟨b,off,f1,f2,by rw[f4];simp[Tr.keys,keysOf,f3]⟩
theorem wayD_step (ks:List (List UInt8)) (key:List UInt8) (n:Nat):wayD ks key (n+1)=if key<ks[n+1]?.getD [] then wayD ks key n else n+1:=rfl
theorem rway_any {n:Nat} {w:World} {cs:List Value} {t:Tr} (h:RIn n w cs t) (key:List UInt8) (hc:cntT t≤1000) :
 Calls Tryz.prog 128 #[.agg cs.toArray,.string (strOf key)] w fun e w'=>e=.returned (.int .i64 (wayF t.keys key:Int))∧Below w.heap.size w w':=by
 cases n with
 | zero=>exact h.elim
 | succ n=>
 obtain⟨a,c,rfl,h2,h3,h4,h5⟩:=h.any;have HC:=Hd h5;have HL:=Hd h4;have hA:Below w.heap.size w (w.alloc (.cells #[.int .i64 t.page,.bool t.isLeaf,.slice a (cntT t) c] 27)):=(Below.refl _ _).alloc (Nat.le_refl _) _;have HBX:=Hd ((Boxes.nil w).alloc #[.int .i64 t.page,.bool t.isLeaf,.slice a (cntT t) c] 27 rfl);have HW:Hid (wayF t.keys key=wayD t.keys key (cntT t-1)):=Hd (by unfold wayF;rw[h4]);generalize t.keys=K at *;generalize cntT t=m at *;generalize t.page=pg at *;generalize t.isLeaf=lf at *;obtain⟨R,hR⟩:∃R,wayF K key=R:=⟨_,rfl⟩
 rw[hR] at HW ⊢;obtain⟨wA,hwA⟩:∃wA,w.alloc (.cells #[.int .i64 pg,.bool lf,.slice a m c] 27)=wA:=⟨_,rfl⟩
 rw[hwA] at hA HBX;have HA:=Hd hA;have f2:=HBX.out.cell 0 2 rfl rfl;clear h h4 h5 hR hA;go_enter Tryz.func128,Tryz.ntmps128;go_wp2_with fail;clear hwA
 go_loop [5] (fun s=>(m=0∧s=.int .i64 (-1))∨(0<m∧∃i:Nat,i<m∧s=.int .i64 i∧R=wayD K key i)) (fun s=>(intOf s).toNat)
 case atStart=>
  by_cases h0:m=0
  ·exact .inl ⟨h0,by rw[h0];rfl⟩
  ·exact .inr ⟨by omega,m-1,by omega,by congr 1;omega,HW.out⟩
 case round=>
  rcases hrel with⟨rfl,rfl⟩|⟨hm,i,hi,rfl,hr⟩
  ·go_wp2_with fail
   go_ret;exact⟨ret_int (by rw[HW.out];rfl),HA.out⟩
  ·cases i with
   | zero=>
    have HR:=Hd hr;clear hr;go_wp2_with fail;go_ret;exact⟨ret_int (by rw[HR.out]<;>rfl),HA.out⟩
   | succ i=>
    have d0:decide ((0:Int)<((i+1:Nat):Int))=true:=by simp<;>omega
    obtain⟨b,off,rfl,hb,hcell⟩:=HC.out (i+1) hi;have c1:=(HA.out.cell (p:=⟨b,off+(i+1)*4,none⟩) hb).trans hcell;rw[wayD_step] at hr;generalize K[i+1]?.getD []=k at *;clear hcell
    rcases ktri key k with hlt|rfl|hlt
    ·rw[if_pos hlt] at hr
     obtain⟨_,e3,e1,e2⟩:=cmp_lt hlt;clear e3;have HR:=Hd hr;clear hr hlt;go_wp2_with fail
     go_round
     case rel=>exact .inr ⟨hm,i,by omega,by first|rfl|(congr 1;omega),HR.out⟩
     case measure=>simp[intOf]<;>omega
    ·rw[if_neg (klt_irrefl _)] at hr
     obtain⟨e1,e2⟩:=cmp_eq key;have HR:=Hd hr;clear hr;go_wp2_with fail;go_ret;exact⟨ret_int (by rw[HR.out];go_num),HA.out⟩
    ·rw[if_neg (klt_asymm hlt)] at hr
     obtain⟨e1,e2,e3,e4⟩:=cmp_lt hlt;clear e3 e4;have HR:=Hd hr;clear hr hlt;go_wp2_with fail;go_ret;exact⟨ret_int (by rw[HR.out];go_num),HA.out⟩
open Go.RowKit
theorem TabR.unmap {α β:Type} {sz:Nat} {R:List Value→β→Prop} {f:α→β} {w:World} {a:Option Addr} {n c:Nat} {l:List α} (h:TabR sz R w a n c (l.map f)):TabR sz (fun cs y=>R cs (f y)) w a n c l:=by
 obtain⟨h1,h2,h3,hn,h4⟩:=h;refine⟨by simpa using h1,h2,h3,hn,?_⟩
 rcases h4 with h4|⟨b,off,h5,h6,h7⟩
 ·exact .inl h4
 ·exact .inr ⟨b,off,h5,h6,fun i y hy=>h7 i (f y) (by rw[List.getElem?_map,hy];rfl)⟩
theorem RNodeOn.toRIn {F:Nat→Prop}:∀{n:Nat} {w:World} {cs:List Value} {t:Tr},RNodeOn F n w cs t→RIn n w cs t
 | 0,_,_,_,h=>h.elim
 | n+1,w,cs,.leaf p l,h=>by
  obtain⟨a,c,e,h1,_⟩:=h.at;refine⟨a,_,c,e,TabR.mono (TabR.unmap h1) (fun cs y hy=>?_)⟩;obtain⟨pa,pn,pc,ka,kn,kc,e,k1,_,k2,_⟩:=hy;obtain rfl:kn=0:=k2.1.symm;exact⟨pa,pn,pc,ka,kc,e,k1,unit_any k2⟩
 | n+1,w,cs,.node p l,h=>by
  obtain⟨a,c,e,h1,_⟩:=h.at;refine⟨a,_,c,e,TabR.mono (TabR.unmap h1) (fun cs y hy=>?_)⟩;obtain⟨pa,pn,pc,ka,kn,kc,e,k1,_,k2,_⟩:=hy;obtain rfl:kn=1:=k2.1.symm;obtain rfl:pn=0:=k1.1.symm;exact⟨pa,pc,ka,kc,e,k1,TabR.mono k2 (fun _ _ h=>h.toRIn)⟩
theorem set_cells {l:List (List UInt8×Tr)} {k:Nat} (hk:k<l.length) (p:Int) (key:List UInt8) (T:Tr) :
 cellsR (.node 0 (l.set k (key,T)))=(cellsR (.node p l)).take k++[⟨key,⟨[],[]⟩,some T⟩]++(cellsR (.node p l)).drop (k+1):=by
 obtain⟨a,c,b,rfl,rfl⟩:=list_at hk;rw[List.set_append_right _ _ (Nat.le_refl _),Nat.sub_self,List.set_cons_zero];simp[cellsR,List.drop_append]
open Go.RowKit
theorem rsizes_node {n:Nat} {F:Nat→Prop} {w:World} {cs:List Value} {p:Int} {l:List (List UInt8×Tr)} (h:RNodeOn F (n+1) w cs (.node p l)) (hb:Bnd (n+1) (.node p l)) :
 Calls Tryz.prog 126 #[.agg cs.toArray] w (SizesPost w (sizesT (.node p l))):=by
 obtain⟨a,c,rfl,h1,_⟩:=h.at;obtain⟨g1,g2⟩:=hb;obtain⟨e1,e2,e3⟩:=h1.lens;obtain⟨kn,hkn'⟩:∃x,cntT (.node p l)=x:=⟨_,rfl⟩
 have hkl:l.length=kn:=hkn';rw[hkn'] at h1 e1 e2 ⊢;have hsl:(sizesT (.node p l)).length=kn:=by rw[sizes_len_node,hkl]
 have HS:Hid (∀(i:Nat) (x:List UInt8×Tr),l[i]? = some x→(sizesT (.node p l))[i]?.getD 0=4+(x.1.length:Int)∧x.1.length≤200):=Hd (fun i x hx=>by
  have:=(g2 x (List.mem_of_getElem? hx)).1;simp[sizesT,hx,this])
 have HV:=Hd h1;have HSL:=Hd hsl;have hkn:kn≤1000:=by omega
 obtain⟨i0,hi0,hz0,hz1,hz2⟩:=info_parts info_intT;show Calls _ _ #[.agg #[.int .i64 p,.bool false,.slice a kn c]] _ _;have hA:Below w.heap.size w (w.alloc (.cells #[.int .i64 p,.bool false,.slice a kn c] 27)):=(Below.refl _ _).alloc (Nat.le_refl _) _;have HBX:=Hd ((Boxes.nil w).alloc #[.int .i64 p,.bool false,.slice a kn c] 27 (b:=w.heap.size) rfl);generalize sizesT (.node p l)=S at *;clear h h1 g1 g2 e1 hkl hsl hkn';go_enter Tryz.func126,Tryz.ntmps126;go_wp2_with fail
 go_loopw [3,4] (fun s3 s4 wr=>∃i:Nat,i≤kn∧s4=.int .i64 i∧wr.ownsRow w.heap.size 3 1 s3 i ((S.take i).map (Value.int .i64))∧Below w.heap.size w wr∧Boxes wr [(w.heap.size,[.int .i64 p,.bool false,.slice a kn c])]∧s3.ownBlock≠some w.heap.size) (fun _ s _=>kn-(intOf s).toNat)
 case atStart=>exact⟨0,Nat.zero_le _,rfl,World.ownsRow_nil _ _ _ _,hA,HBX.out,by simp[Value.ownBlock]⟩
 case round=>
  have m2257ee:=trivial;exact qaa4dc3
theorem rsizes_leaf {n:Nat} {F:Nat→Prop} {w:World} {cs:List Value} {p:Int} {l:List (List UInt8×Tv)} (h:RNodeOn F (n+1) w cs (.leaf p l)) (hb:Bnd (n+1) (.leaf p l)) :
 Calls Tryz.prog 126 #[.agg cs.toArray] w (SizesPost w (sizesT (.leaf p l))):=by
 obtain⟨a,c,rfl,h1,_⟩:=h.at;obtain⟨g1,g2⟩:=hb;obtain⟨e1,e2,e3⟩:=h1.lens;obtain⟨kn,hkn'⟩:∃x,cntT (.leaf p l)=x:=⟨_,rfl⟩
 have hkl:l.length=kn:=hkn';rw[hkn'] at h1 e1 e2 ⊢;have hsl:(sizesT (.leaf p l)).length=kn:=by rw[sizes_len_leaf,hkl]
 have HS:Hid (∀(i:Nat) (x:List UInt8×Tv),l[i]? = some x→(sizesT (.leaf p l))[i]?.getD 0=3+(vSz x.2:Int)+(x.1.length:Int)∧x.1.length≤200∧x.2.data.length≤1000):=Hd (fun i x hx=>by
  have:=g2 x (List.mem_of_getElem? hx);simp[sizesT,hx,this])
 have HV:=Hd h1;have HSL:=Hd hsl;have hkn:kn≤1000:=by omega
 obtain⟨i0,hi0,hz0,hz1,hz2⟩:=info_parts info_intT;show Calls _ _ #[.agg #[.int .i64 p,.bool true,.slice a kn c]] _ _;have hA:Below w.heap.size w (w.alloc (.cells #[.int .i64 p,.bool true,.slice a kn c] 27)):=(Below.refl _ _).alloc (Nat.le_refl _) _;have HBX:=Hd ((Boxes.nil w).alloc #[.int .i64 p,.bool true,.slice a kn c] 27 (b:=w.heap.size) rfl);generalize sizesT (.leaf p l)=S at *;clear h h1 g1 g2 e1 hkl hsl hkn';go_enter Tryz.func126,Tryz.ntmps126;go_wp2_with fail
 go_loopw [3,4] (fun s3 s4 wr=>∃i:Nat,i≤kn∧s4=.int .i64 i∧wr.ownsRow w.heap.size 3 1 s3 i ((S.take i).map (Value.int .i64))∧Below w.heap.size w wr∧Boxes wr [(w.heap.size,[.int .i64 p,.bool true,.slice a kn c])]∧s3.ownBlock≠some w.heap.size) (fun _ s _=>kn-(intOf s).toNat)
 case atStart=>exact⟨0,Nat.zero_le _,rfl,World.ownsRow_nil _ _ _ _,hA,HBX.out,by simp[Value.ownBlock]⟩
 case round=>
  have m74aea3:=trivial;exact qaa4dc3
theorem rsizes_any {n:Nat} {F:Nat→Prop} {w:World} {cs:List Value} {t:Tr} (h:RNodeOn F n w cs t) (hb:Bnd n t):Calls Tryz.prog 126 #[.agg cs.toArray] w (SizesPost w (sizesT t)):=by
 cases n with
 | zero=>exact h.elim
 | succ n=>
  cases t with
  | leaf p l=>exact rsizes_leaf h hb
  | node p l=>exact rsizes_node h hb
end Go.Proofs.YtpghlmcoajaiiaaGreatDoor
