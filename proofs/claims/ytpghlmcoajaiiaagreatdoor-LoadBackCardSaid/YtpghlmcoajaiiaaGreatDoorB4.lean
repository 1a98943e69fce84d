/- Texts that other texts of this claim lean on, one behind the other. -/
import Derived.Test.YtpghlmcoajaiiaaGreatDoorB1
import Derived.Test.YtpghlmcoajaiiaaGreatDoorB3
import Derived.Test.YtpghlmcoajaiiaaGreatDoorB2
import Derived.Outline
import Derived.Maps.Own
import Derived.Maps.OwnOps
import Derived.Maps.Views
import Derived.Deep.RegionHeld3
import Derived.Laws.Append
import Derived.Laws.AppendOwn
set_option maxHeartbeats 20000000
set_option maxRecDepth 100000
namespace Go.Proofs.YtpghlmcoajaiiaaGreatDoor
open Go.RowKit
def newOk (l:List Int):Bool:=decide (1≤l.length) && decide (l.length≤64) && l.all fun n=>decide (1≤n) && decide (n≤1000)
def newD (l:List Int):List Rg:=l.map fun n=>Rg.new n.toNat
theorem info_ptr:(Tryz.prog.info? 110).map (fun i=>(i.zero,i.size,i.bytes))=some (some (.pointer none),1,8):=by kernel_rfl
theorem heap_alloc_lt (w:World) (o:Obj) {k:Nat} (h:k<w.heap.size):(w.alloc o).heap[k]? = w.heap[k]? := ((Below.refl w.heap.size w).alloc (Nat.le_refl _) o).block k h
theorem DskIn.push {w:World} {F:List Nat} {db:Nat} {bs:List (Nat×List Nat)} {d:List Rg} (h:DskIn w F db 0 bs d) (n:Nat) (hn:n≤1000) (hd:d.length≤1000) (B:Nat) (hB:∀k∈F,B≤k) (hBw:B≤w.heap.size) :
 ∃a m c v' w4,w.cell? ⟨db,0,none⟩=some (.slice a m c)∧m=d.length ∧
  (Builtin.append_ #[107,107] 107 #[.slice a m c,.slice (some ⟨w.heap.size+1+1,0,none⟩) 1 1]).run Tryz.prog (((w.alloc (.map #[] 0)).alloc (.cells #[.int .i64 (n:Int),.map (some w.heap.size),.slice none 0 0,.int .i64 (-1),.bool false] 114)).alloc (.cells #[.pointer (some ⟨w.heap.size+1,0,none⟩)] 110))=.ok v' w4 ∧
  w4.cell? ⟨db,0,none⟩=some (.slice a m c)∧w4.frozen? ⟨db,0,none⟩=false∧(∃a' m' c',v'=.slice a' m' c')∧Below B w (w4.setCell ⟨db,0,none⟩ v') ∧
  ∃F' bs',DskIn (w4.setCell ⟨db,0,none⟩ v') F' db 0 bs' (d++[Rg.new n])∧∀k∈F',B≤k:=by
 obtain⟨pv,h1,h2,h3⟩:=h.cells;obtain⟨a,c,rfl,hc1,hc2,_⟩:=own_slice h2;have hdb:=h.lt db h.mem;generalize hW2:(w.alloc (.map #[] 0)).alloc (.cells #[.int .i64 (n:Int),.map (some w.heap.size),.slice none 0 0,.int .i64 (-1),.bool false] 114)=W2;have hs2:W2.heap.size=w.heap.size+2:=by rw[←hW2];simp
 have hb2:Below w.heap.size w W2:=by rw[←hW2];exact((Below.refl _ _).alloc (Nat.le_refl _) _).alloc (by simp) _
 have hmb:W2.heap[w.heap.size]? = some (.map #[] 0):=by
  rw[←hW2,heap_alloc_lt _ _ (by simp)];exact World.alloc_heap_new w _
 have hrb:W2.heap[w.heap.size+1]? = some (.cells #[.int .i64 (n:Int),.map (some w.heap.size),.slice none 0 0,.int .i64 (-1),.bool false] 114 (0,0)):=by
  rw[←hW2];have:=World.alloc_heap_new (w.alloc (.map #[] 0)) (.cells #[.int .i64 (n:Int),.map (some w.heap.size),.slice none 0 0,.int .i64 (-1),.bool false] 114)
  rwa [show(w.alloc (.map #[] 0)).heap.size=w.heap.size+1 by simp] at this
 obtain⟨i0,hi0,hz0,hz1,hz2⟩:=info_parts info_ptr;obtain⟨v',w4,hr,ho,hg,hv⟩:=run_append_new (P:=Tryz.prog) (w:=W2) 0 107 110 i0 _ 1 8 Tryz.underlying107 hi0 hz0 hz1 hz2 rfl (by decide) (own_step h2 hb2) #[.pointer (some ⟨w.heap.size+1,0,none⟩)] rfl (by intro u hu;simp at hu;subst hu;rfl) (by unfold maxLen;omega) (by omega) (Nat.zero_le _);have hown_ne:∀k,Value.ownBlock (.slice a d.length c)=some k→k≠db∧k<w.heap.size:=by
  intro k hk;refine⟨fun e=>?_,h.lt k (h3 k hk).1⟩
  rcases h2.2 with⟨e2,_⟩|⟨g,cap,cur,e2,_,hg,_⟩
  ·rw[e2] at hk;cases hk
  ·rw[e2] at hk;cases hk
   have e':g=db:=e;rw[e',h1] at hg;simp only[Option.some.injEq,Obj.cells.injEq] at hg;exact absurd hg.2.1 (by decide)
 have kb:∀k,k<w.heap.size→some k≠Value.ownBlock (.slice a d.length c)→w4.heap[k]? = w.heap[k]? := fun k hk hne=>(hg.block k (by omega) hne).trans (hb2.block k hk)
 have hdb4:w4.heap[db]? = some (.cells #[.slice a d.length c] 109 (0,0)):=(kb db hdb (fun e=>(hown_ne db e.symm).1 rfl)).trans h1;have k4:∀k,w.heap.size≤k→k<W2.heap.size→w4.heap[k]? = W2.heap[k]? := fun k hk hk2=>hg.block k hk2 (fun e=>by have:=(hown_ne k e.symm).2;omega)
 have hs4:=hg.size;have hvlt:=own_lt ho;have hvk:∀k,v'.ownBlock=some k→(k∈F∧(∀q∈bs,k∉q.2)∧k<w.heap.size∧k≠db)∨w.heap.size+2<k:=by
  intro k hk
  rcases hv with hv|hv
  ·rw[hv] at hk;exact .inl ⟨(h3 k hk).1,(h3 k hk).2,(hown_ne k hk).2,(hown_ne k hk).1⟩
  ·rw[hv,hs2] at hk;cases hk;exact .inr (by omega)
 obtain⟨a',c',rfl,_⟩:=own_slice ho;have hS:Only [db] w4 (w4.setCell ⟨db,0,none⟩ (.slice a' (d.length+1) c')):=(Only.refl _ _).set _ _ (by simp);have hBF:∀k∈F++([w.heap.size+1,w.heap.size]++(Value.ownBlock (.slice a' (d.length+1) c')).toList),B≤k:=by
  intro k hk;simp only[List.mem_append,List.mem_cons,List.not_mem_nil,or_false] at hk
  rcases hk with hk|(rfl|rfl)|hk
  ·exact hB k hk
  ·omega
  ·omega
  ·have hk':Value.ownBlock (.slice a' (d.length+1) c')=some k:=by simpa using hk
   rcases hvk k hk' with h5|h5
   ·exact hB k h5.1
   ·omega
 have hO:Only F w w4:=⟨hg.os.trans hb2.os,hg.tape.trans hb2.tape,hg.output.trans hb2.output,Nat.le_trans hb2.size hg.size,fun k hk hkF=>kb k hk (fun e=>hkF (h3 k e.symm).1)⟩
 have hDSK:DskIn (w4.setCell ⟨db,0,none⟩ (.slice a' (d.length+1) c')) (F++([w.heap.size+1,w.heap.size]++(Value.ownBlock (.slice a' (d.length+1) c')).toList)) db 0 (bs++[(w.heap.size+1,[w.heap.size+1,w.heap.size])]) (d++[Rg.new n]):=by
  refine⟨⟨.slice a' (d.length+1) c',?_,?_,?_⟩,List.mem_append_left _ h.mem,?_,by simp[h.len],?_,?_,?_,?_⟩
  ·rw[heap_setCell_at 0 _ hdb4];rfl
  ·have:=own_only ho hS (fun k hk=>by
    rcases hvk k hk with h5|h5
    ·simpa using h5.2.2.2
    ·simp;omega)
   simpa using this
  ·intro k hk
   refine⟨by simp[hk],fun q hq=>?_⟩
   rcases List.mem_append.1 hq with hq|hq
   ·rcases hvk k hk with h5|h5
    ·exact h5.2.1 q hq
    ·intro hk2;have:=h.lt k (h.sub q hq k hk2);omega
   ·simp at hq;subst hq
    simp
    rcases hvk k hk with h5|h5<;>omega
  ·intro q hq
   rcases List.mem_append.1 hq with hq|hq
   ·exact h.off q hq
   ·simp at hq;subst hq;simp;omega
  ·intro i q x hq hx
   have hbd:=h.len
   by_cases hi:i<d.length
   ·rw[List.getElem?_append_left (by omega)] at hq
    rw[List.getElem?_append_left hi] at hx;have hqm:=List.mem_of_getElem? hq;have hO4:Only (Value.ownBlock (.slice a d.length c)).toList w w4:=⟨hO.1,hO.2.1,hO.2.2.1,hO.size,fun k hk hkn=>kb k hk (fun e=>hkn (by rw[←e];simp))⟩
    refine((h.reg i q x hq hx).only hO4 (fun k hk hk2=>?_)).only hS (fun k hk=>?_)
    ·exact(h3 k (by simpa using hk2)).2 q hqm hk
    ·simp;exact fun e=>h.off q hqm (e ▸ hk)
   ·have hil:i=d.length:=by
     have:=(List.getElem?_eq_some_iff.1 hx).1;simp at this;omega
    subst hil;rw[List.getElem?_append_right (by omega),hbd,Nat.sub_self] at hq;rw[List.getElem?_append_right (Nat.le_refl _),Nat.sub_self] at hx;simp at hq hx;subst hq hx;have e1:(w4.setCell ⟨db,0,none⟩ (.slice a' (d.length+1) c')).heap[w.heap.size+1]? = _:=(hS.block (k:=w.heap.size+1) (by omega) (by simp;omega)).trans ((k4 _ (by omega) (by omega)).trans hrb);have e2:(w4.setCell ⟨db,0,none⟩ (.slice a' (d.length+1) c')).heap[w.heap.size]? = some (.map #[] 0):=(hS.block (k:=w.heap.size) (by omega) (by simp;omega)).trans ((k4 _ (by omega) (by omega)).trans hmb);refine⟨w.heap.size,0,.slice none 0 0,e1,(PgMap.made w).kept (e2.trans (World.alloc_heap_new w _).symm),World.ownsRow_nil _ _ _ _,Nat.le_refl _,by simp,by simp,(fun k hk=>by cases hk),fun k hk=>?_,hn,(fun p hp=>by simp[Rg.new] at hp),(by simp[Rg.new])⟩;have:=hS.size;simp at hk;omega
  ·intro i j q r hij hq hr2 k hk hk2
   have hbd:=h.len;have cs:∀i q,(bs++[(w.heap.size+1,[w.heap.size+1,w.heap.size])])[i]? = some q→(bs[i]? = some q∧∀k∈q.2,k<w.heap.size)∨(i=bs.length∧∀k∈q.2,w.heap.size≤k):=by
    intro i q hq
    by_cases hi:i<bs.length
    ·rw[List.getElem?_append_left hi] at hq
     exact .inl ⟨hq,fun k hk=>h.lt k (h.sub q (List.mem_of_getElem? hq) k hk)⟩
    ·have hil:i=bs.length:=by
      have:=(List.getElem?_eq_some_iff.1 hq).1;simp at this;omega
     subst hil;rw[List.getElem?_append_right (Nat.le_refl _),Nat.sub_self] at hq;simp at hq;subst hq;refine .inr ⟨rfl,fun k hk=>?_⟩;simp at hk;omega
   rcases cs i q hq with⟨g1,g2⟩|⟨g1,g2⟩
   ·rcases cs j r hr2 with⟨g3,g4⟩|⟨g3,g4⟩
    ·exact h.apart i j q r hij g1 g3 k hk hk2
    ·have:=g2 k hk;have:=g4 k hk2;omega
   ·rcases cs j r hr2 with⟨g3,g4⟩|⟨g3,g4⟩
    ·have:=g2 k hk;have:=g4 k hk2;omega
    ·omega
  ·intro q hq k hk
   rcases List.mem_append.1 hq with hq|hq
   ·exact List.mem_append_left _ (h.sub q hq k hk)
   ·simp at hq;subst hq
    refine List.mem_append_right _ (List.mem_append_left _ hk)
  ·intro k hk
   have:=hS.size;simp only[List.mem_append,List.mem_cons,List.not_mem_nil,or_false] at hk
   rcases hk with hk|(rfl|rfl)|hk
   ·have:=h.lt k hk;omega
   ·omega
   ·omega
   ·have hk':Value.ownBlock (.slice a' (d.length+1) c')=some k:=by simpa using hk
    have:=hvlt k hk';omega
 refine⟨a,d.length,c,.slice a' (d.length+1) c',w4,by simp[World.cell?,h1],rfl,(by rw[hs2] at hr;exact hr),by simp[World.cell?,hdb4],by simp[World.frozen?,hdb4],⟨_,_,_,rfl⟩,(hO.set _ _ h.mem).below hBw hB,_,_,hDSK,hBF⟩
def NewRel (w:World) (l:List Int) (k:Nat) (wr:World):Prop:=∃F bs,DskIn wr F w.heap.size 0 bs (newD (l.take k))∧(∀j∈F,w.heap.size≤j)∧Below w.heap.size w wr∧(l.take k).all (fun n=>decide (1≤n) && decide (n≤1000))=true
def NewPost (w:World) (l:List Int) (e:Ending) (w':World):Prop:=
 Below w.heap.size w w'∧(if newOk l then ∃F db bs,e=.returned (.tuple #[.pointer (some ⟨db,0,none⟩),.int .i64 0])∧DskIn w' F db 0 bs (newD l)∧∀j∈F,w.heap.size≤j else e=.returned (.tuple #[.pointer none,.int .i64 1]))
theorem newPost_bad {w w':World} {l:List Int} (h:newOk l=false) (hb:Below w.heap.size w w'):NewPost w l (.returned (.tuple #[.pointer none,.int .i64 1])) w':=⟨hb,by rw[h];rfl⟩
theorem DskIn.fresh (w:World):DskIn (w.alloc (.cells #[.slice none 0 0] 109)) [w.heap.size] w.heap.size 0 [] []:=by
 have hh:=World.alloc_heap_new w (.cells #[.slice none 0 0] 109);exact⟨⟨.slice none 0 0,hh,World.ownsRow_nil _ _ _ _,fun k hk=>by cases hk⟩,by simp,by simp,rfl,fun i q x hq=>by simp at hq,fun i j q r _ hq=>by simp at hq,by simp,by simp⟩
theorem dnew_any {w:World} {a:Option Addr} {len cap:Nat} {l:List Int} (h:Row .i64 w a len cap l) :
 Calls Tryz.prog 11 #[.slice a len cap] w (NewPost w l):=by
 have hl:=h.1;have hm:len≤9223372036854775807:=by have:=h.2.1;have:=h.2.2.1;unfold maxLen at this;omega
 by_cases h0:len<1
 ·have d0:decide (len<1)=true:=by simpa using h0
  have d0':decide ((len:Int)<1)=true:=by simp;omega
  have HB:=Hd (newPost_bad (w:=w) (w':=w) (l:=l) (by unfold newOk;rw[show decide (1≤l.length)=false from decide_eq_false (by omega)];rfl) (Below.refl _ _));clear h hl;go_enter Tryz.func11,Tryz.ntmps11;go_wp2_with fail
  go_ret2
  exact HB.out
 ·by_cases h64:64<len
  ·have d0:decide (len<1)=false:=by simpa using h0
   have d0':decide ((len:Int)<1)=false:=by simp;omega
   have d1:decide (64<len)=true:=by simpa using h64
   have d1':decide ((64:Int)<len)=true:=by simp;omega
   have HB:=Hd (newPost_bad (w:=w) (w':=w) (l:=l) (by unfold newOk;rw[show decide (l.length≤64)=false from decide_eq_false (by omega)];simp) (Below.refl _ _));clear h hl;go_enter Tryz.func11,Tryz.ntmps11;go_wp2_with fail
   go_ret2
   exact HB.out
  ·have d0:decide (len<1)=false:=by simpa using h0
   have d0':decide ((len:Int)<1)=false:=by simp;omega
   have d1:decide (64<len)=false:=by simpa using h64
   have d1':decide ((64:Int)<len)=false:=by simp;omega
   have START:NewRel w l 0 (w.alloc (.cells #[.slice none 0 0] 109)):=⟨_,_,DskIn.fresh w,by(intro j hj;simp at hj;subst hj;exact Nat.le_refl _),(Below.refl _ _).alloc (Nat.le_refl _) _,rfl⟩
   have HSTART:=Hd START;have HROW:=Hd h;have HL:=Hd hl;obtain⟨_,_,_,_,hcells⟩:=h;clear START hl;go_enter Tryz.func11,Tryz.ntmps11;go_wp2_with fail
   go_loopw [19] (fun s wr=>∃(k:Nat),k≤len∧s=.int .i64 k∧NewRel w l k wr) (fun s _=>len-(intOf s).toNat)
   case atStart=>exact⟨0,Nat.zero_le _,rfl,HSTART.out⟩
   case round=>
    obtain⟨k,hk,rfl,hrel⟩:=hrel
    by_cases hlt:k<len
    ·obtain⟨b,off,rfl,hb,hc⟩:∃b off,a=some ⟨b,off,none⟩∧b<w.heap.size∧∀i,i<len→w.cell? ⟨b,off+i,none⟩=some (.int .i64 (l[i]?.getD 0)):=by
      rcases hcells with h0|h0
      ·omega
      ·exact h0
     obtain⟨F,bs,hd,hF,hbw,hall⟩:=hrel;have hkl:k<l.length:=by have:=HL.out;omega
     have hn:∃n,l[k]? = some n:=⟨_,List.getElem?_eq_getElem hkl⟩
     obtain⟨n,hn⟩:=hn;have hts:l.take (k+1)=l.take k++[n]:=by rw[List.take_succ_eq_append_getElem hkl,(List.getElem?_eq_some_iff.1 hn).2]
     have c1:wr.cell? ⟨b,off+k,none⟩=some (.int .i64 n):=by
      rw[hbw.cell (p:=⟨b,off+k,none⟩) hb,hc k hlt,hn];rfl
     by_cases hgood:1≤n∧n≤1000
     ·obtain⟨m,rfl⟩:=Int.eq_ofNat_of_zero_le (show 0≤n by omega)
      have e0:decide ((m:Int)<1)=false:=by simp;omega
      have e1:decide ((1000:Int)<m)=false:=by simp;omega
      have e2:decide (m<1)=false:=by simp;omega
      have e3:decide (1000<m)=false:=by simp;omega
      have hdl:(newD (l.take k)).length≤1000:=by have:=HL.out;simp[newD];omega
      obtain⟨a9,m9,k9,v9,w9,c9,-,hr9,c10,f10,⟨a8,m8,k8,rfl⟩,hb9,F9,bs9,hd9,hF9⟩:=hd.push m (by omega) hdl w.heap.size hF hbw.size;have END:∃k':Nat,k'≤len∧Value.int .i64 ((k+1:Nat):Int)=.int .i64 k'∧NewRel w l k' (w9.setCell ⟨w.heap.size,0,none⟩ (.slice a8 m8 k8)):=by
       refine⟨k+1,hlt,rfl,F9,bs9,?_,hF9,hbw.trans hb9,?_⟩
       ·rw[hts];simpa[newD] using hd9
       ·rw[hts,List.all_append,hall];simp;omega
      have END:=Hd END;clear hd hF hbw hall hd9 hF9 hb9 hdl hts hn hgood hkl hcells hc hb;have hmm:=@run_makeMap Tryz.prog
      go_wp2_with (at_builtin;refine wpList_append_run rfl _ _ _ _ rfl rfl rfl hr9 ?_)
      go_roundw
      case rel=>exact END.out
      case measure=>simp[intOf];omega
     ·have hbad:newOk l=false:=by
       unfold newOk;rw[show l.all (fun n=>decide (1≤n) && decide (n≤1000))=false from by
        rw[List.all_eq_false];exact⟨n,List.mem_of_getElem? hn,by simp;omega⟩]
       simp
      have HB:=Hd (newPost_bad hbad hbw)
      by_cases g1:n<1
      ·have e0:decide (n<1)=true:=by simpa using g1
       clear hd hF hbw hall hts hn hgood hkl hcells hc hb hbad;go_wp2_with fail
       go_ret2
       exact HB.out
      ·have e0:decide (n<1)=false:=by simpa using g1
       have e1:decide (1000<n)=true:=by simp;omega
       clear hd hF hbw hall hts hn hgood hkl hcells hc hb hbad;go_wp2_with fail
       go_ret2
       exact HB.out
    ·obtain rfl:k=len:=by omega
     obtain⟨F,bs,hd,hF,hbw,hall⟩:=hrel;have htl:l.take k=l:=List.take_of_length_le (by rw[HL.out];exact Nat.le_refl _);rw[htl] at hd hall;have END:NewPost w l (.returned (.tuple #[.pointer (some ⟨w.heap.size,0,none⟩),.int .i64 0])) wr:=by
      refine⟨hbw,?_⟩;rw[if_pos (by unfold newOk;have:=HL.out;rw[hall];simp;omega)];exact⟨F,_,bs,rfl,hd,hF⟩
     have END:=Hd END;clear hd hF hbw hall htl;go_wp2_with fail
     go_ret2
     exact END.out
def Opens (B T:Nat) (w:World) (da M:Nat) (d:List Rg) (Q:World→Nat→List Rg→Prop):Prop:=
 ∃F bs,DskIn w F da M bs d∧(∀k∈F,B≤k∧k<T)∧T≤w.heap.size∧B≤w.heap.size∧∀w' F' bs' d' M',M≤M'→Only F w w'→DskIn w' F' da M' bs' d'→(∀k∈F',k∈F∨T≤k)→Q w' M' d'
def One (B:Nat) (w:World) (da M:Nat) (d:List Rg):Prop:=∃F bs,DskIn w F da M bs d∧(∀k∈F,B≤k)∧B≤w.heap.size
theorem One.below {B:Nat} {w w':World} {da M:Nat} {d:List Rg} (h:One B w da M d) (hb:Below w.heap.size w w'):One B w' da M d:=by
 obtain⟨F,bs,h1,h2,h3⟩:=h;exact⟨F,bs,h1.below hb,h2,by have:=hb.size;omega⟩
section
variable {B T:Nat} {w:World} {da M:Nat} {d:List Rg} {Q:World→Nat→List Rg→Prop}
theorem write_o (h:Opens B T w da M d Q) {a:Option Addr} {len cap:Nat} {l:List UInt8} (hb:Bs w a len cap l) (hF:∀g off,a=some ⟨g,off,none⟩→g<B∨T≤g) (hM:M≤900000) (r p:Int) :
 Calls Tryz.prog 13 #[.pointer (some ⟨da,0,none⟩),.int .i64 r,.int .i64 p,.slice a len cap] w fun e w'=>e=.returned (.int .i64 (writeE d r p l))∧Q w' (M+1) (writeD d r p l):=by
 obtain⟨F,bs,h1,h2,h3,h4,h5⟩:=h;refine(write_any h1 hb (fun g off hg hk=>by have:=h2 g hk;rcases hF g off hg with h|h<;>omega) hM r p).mono ?_;rintro e w' ⟨rfl,ho,F',bs',hd,hF'⟩;exact⟨rfl,h5 w' F' bs' _ _ (Nat.le_succ M) ho hd (fun k hk=>(hF' k hk).imp id (fun h=>by omega))⟩
end
section
variable {B:Nat} {w:World} {da M:Nat} {d:List Rg}
theorem read_o (h:One B w da M d) (r p:Int):Calls Tryz.prog 94 #[.pointer (some ⟨da,0,none⟩),.int .i64 r,.int .i64 p] w (ReadPost w (readB d r p) (pagedE d r p)):=by
 obtain⟨F,bs,h1,h2,h3⟩:=h;exact dread_any h1 r p
end
def NewOk (w:World) (d:List Rg) (e:Ending) (w':World):Prop:=∃db,e=.returned (.tuple #[.pointer (some ⟨db,0,none⟩),.int .i64 0])∧One w.heap.size w' db 0 d∧Below w.heap.size w w'
theorem new_ok {w:World} {a:Option Addr} {len cap:Nat} {l:List Int} (h:Row .i64 w a len cap l) (hl:newOk l=true):Calls Tryz.prog 11 #[.slice a len cap] w (NewOk w (newD l)):=by
 refine(dnew_any h).mono ?_;rintro e w' ⟨hb,hr⟩;rw[hl,if_pos rfl] at hr;obtain⟨F,db,bs,rfl,hd,hF⟩:=hr;exact⟨db,rfl,⟨F,bs,hd,hF,hb.size⟩,hb⟩
open Go.RowKit
theorem info_bytesA:(Tryz.prog.info? 42).map (fun i=>(i.zero,i.size,i.bytes))=some (some (.slice none 0 0),1,24):=by kernel_rfl
theorem OwnBss.blk {w:World} {base:Nat} {v:Value} {l:List (List UInt8)} (h:OwnBss w base v l):v.ownBlock≠some w.heap.size:=by
 obtain⟨vs,h1,_⟩:=h;intro e;have:=own_lt h1 _ e;omega
theorem append_bss {w:World} {base B:Nat} {v:Value} {l:List (List UInt8)} (h:OwnBss w base v l) {u:Value} {c:List UInt8} (hu:w.ownsRow B 5 1 u c.length ((toI c).map (Value.int .u8))) (hB:base≤B) (hl:l.length≤65536) (hbase:base≤w.heap.size) :
 ∃v' w',(Builtin.append_ #[265,265] 265 #[v,.slice (some ⟨w.heap.size,0,none⟩) 1 1]).run Tryz.prog (w.alloc (.cells #[u] 42))=.ok v' w'∧OwnBss w' base v' (l++[c])∧w.grownBy w' v.ownBlock:=by
 obtain⟨i0,hi,hz0,hz1,hz2⟩:=info_parts info_bytesA;obtain⟨vs,h1,h2,h3⟩:=h;obtain⟨au,ku,rfl,_⟩:=own_slice hu;obtain⟨v',w',hr,ho,hg,_⟩:=run_append_new (P:=Tryz.prog) base 265 42 i0 _ 1 24 Tryz.underlying265 hi hz0 hz1 hz2 rfl (by decide) h1 #[.slice au c.length ku] rfl (fun u hu=>by simp at hu;subst hu;rfl) (by unfold maxLen;omega) (by omega) hbase;exact⟨v',w',hr,OwnBss.snoc h1 rfl h2 h3 (own_baseC hu hB) hg ho,hg⟩
open Go.RowKit
def RegAt (d:List Rg) (r n:Nat) (f:Nat→List UInt8):Prop:=∃x,d[r]? = some x∧x.size=n∧x.left = -1∧x.down=false∧∀p,(seen x p).1=f p
def upd (f:Nat→List UInt8) (p:Nat) (b:List UInt8):Nat→List UInt8:=fun q=>if q=p then b else f q
def zeros:Nat→List UInt8:=fun _=>List.replicate 128 0
theorem RegAt.new {l:List Int} {r:Nat} {n:Int} (h:l[r]? = some n):RegAt (newD l) r n.toNat zeros:=
 ⟨Rg.new n.toNat,by simp[newD,h],rfl,rfl,rfl,fun p=>rfl⟩
theorem RegAt.paged {d:List Rg} {r n:Nat} {f:Nat→List UInt8} (h:RegAt d r n f) (p:Int):pagedE d r p=if 0≤p∧p<n then 0 else 2:=by
 obtain⟨x,hx,hs,hl,hd,hf⟩:=h;have hr:r<d.length:=(List.getElem?_eq_some_iff.1 hx).1;have hu:upE d (r:Int)=0:=by
  unfold upE;rw[if_pos (by omega),Int.toNat_natCast,hx];simp[hd]
 unfold pagedE;rw[if_pos hu,atR_of hx,hs]
theorem RegAt.read {d:List Rg} {r n:Nat} {f:Nat→List UInt8} (h:RegAt d r n f) {p:Int} (hp:0≤p∧p<n):readB d r p=f p.toNat:=by
 have he:=h.paged p;rw[if_pos hp] at he;obtain⟨x,hx,hs,hl,hd,hf⟩:=h;unfold readB;rw[if_pos he,atR_of hx,hf]
theorem RegAt.write {d:List Rg} {r n:Nat} {f:Nat→List UInt8} (h:RegAt d r n f) {p:Int} (hp:0≤p∧p<n) {b:List UInt8} (hb:b.length=128) :
 writeE d r p b=0∧RegAt (writeD d r p b) r n (upd f p.toNat b)∧∀r' n' f',r'≠r→RegAt d r' n' f'→RegAt (writeD d r p b) r' n' f':=by
 have he:=h.paged p;rw[if_pos hp] at he;obtain⟨x,hx,hs,hl,hd,hf⟩:=h;have hr:r<d.length:=(List.getElem?_eq_some_iff.1 hx).1;have hc:cntE x=0:=by rw[cntE,if_neg (by omega)]
 have hw:wroteR x p.toNat (toP b)={ x with loose:=x.loose++[(p.toNat,toP b)] }:=by
  rw[wroteR,if_pos hc,cntR,if_neg (by omega),if_neg (by omega)]
 have hD:writeD d r p b=d.set r (wroteR x p.toNat (toP b)):=by
  rw[writeD,if_pos ⟨he,hb⟩,atR_of hx,Int.toNat_natCast]
 refine⟨by rw[writeE,if_pos he,if_pos hb,atR_of hx,hc],?_,?_⟩
 ·rw[hD,hw]
  refine⟨_,List.getElem?_set_self hr,hs,hl,hd,fun q=>?_⟩;show(lastW q (x.pages q) (x.loose++[(p.toNat,toP b)])).1=_;rw[lastW_snoc];unfold upd
  by_cases hq:q=p.toNat
  ·subst hq;rw[if_pos rfl,if_pos rfl,toP_val hb]
  ·rw[if_neg (fun e=>hq e.symm),if_neg hq];exact hf q
 ·rintro r' n' f' hne ⟨y,hy,h2⟩
  exact⟨y,by rw[hD,List.getElem?_set_ne (fun e=>hne e.symm)];exact hy,h2⟩
def needC (n:Int):Nat:=if n≤16∨400<n then 0 else ((n+118) / 119).toNat
theorem needC_le (n:Int):needC n≤4:=by unfold needC;split<;>omega
theorem needC_pos {n:Int} (h:needC n≠0):16<n∧n≤400:=by
 unfold needC at h
 split at h
 ·exact absurd rfl h
 ·omega
theorem needC_fit {n:Nat} (h:needC n≠0):119*(needC (n:Int)-1)<n∧n≤119*needC (n:Int):=by
 have:=needC_pos h;unfold needC;rw[if_neg (by omega)];omega
def pgC (n:Int):Bool:=decide (2≤n) && decide (n≤999)
def atC (l:List Int) (i:Nat):Int:=l[i]?.getD 0
def aptC (at_:List Int):Bool:=(List.range at_.length).all fun i=>pgC (atC at_ i) && !(at_.take i).contains (atC at_ i)
def wordC (n:Int):List UInt8:=beBytes n.toNat 2
theorem wordC_length (n:Int):(wordC n).length=2:=beBytes_length _ _
def nextC (at_:List Int) (i:Nat):Int:=if i+1<at_.length then atC at_ (i+1) else 0
def partC (v:List UInt8) (i:Nat):List UInt8:=(v.drop (119*i)).take 119
def cellC (v:List UInt8) (at_:List Int) (i:Nat):List UInt8:=wordC (nextC at_ i)++partC v i
def pageC (v:List UInt8) (at_:List Int) (i:Nat):List UInt8:=pageOf 3 [cellC v at_ i]
def putOkC (v:List UInt8) (at_:List Int):Bool:=decide (needC v.length≠0) && (decide (at_.length=needC v.length) && aptC at_)
def putLC (v:List UInt8) (at_:List Int):List (List UInt8):=if putOkC v at_ then (List.range at_.length).map (pageC v at_) else []
def putEC (v:List UInt8) (at_:List Int):Int:=if putOkC v at_ then 0 else 1
theorem partC_le (v:List UInt8) (i:Nat):(partC v i).length≤119:=by simp[partC];omega
theorem cellC_length (v:List UInt8) (at_:List Int) (i:Nat):(cellC v at_ i).length=2+(partC v i).length:=by simp[cellC,wordC_length]
theorem pageC_fits (v:List UInt8) (at_:List Int) (i:Nat):fits 3 [cellC v at_ i]=true:=by
 have:=partC_le v i;simp[fits,lens_one,cellC_length];omega
theorem partC_length {v:List UInt8} {i:Nat}:(partC v i).length=min 119 (v.length-119*i):=by simp[partC]
theorem take_part (v:List UInt8) (i:Nat):v.take (119*i)++partC v i=v.take (119*(i+1)):=by
 rw[partC,←List.take_add,Nat.mul_succ]
def oneEC (b:List UInt8):Int:=
 if unpE b≠0 then unpE b else if unpK b≠3∨(unpL b).length≠1 then 11 else if ((unpL b)[0]?.getD []).length<2 then 10 else 0
def oneNC (b:List UInt8):Int:=if oneEC b=0 then (beVal (((unpL b)[0]?.getD []).take 2):Int) else 0
def onePC (b:List UInt8):List UInt8:=if oneEC b=0 then ((unpL b)[0]?.getD []).drop 2 else []
theorem beVal_word {n:Int} (h:0≤n∧n<65536):(beVal (wordC n):Int)=n:=by
 obtain⟨k,rfl⟩:=Int.eq_ofNat_of_zero_le h.1;have e:wordC (k:Int)=[UInt8.ofNat (k / 256),UInt8.ofNat k]:=by simp[wordC,beBytes]
 rw[e];simp[beVal,UInt8.toNat_ofNat'];omega
theorem oneC_page (v:List UInt8) (at_:List Int) (i:Nat) (h2:0≤nextC at_ i∧nextC at_ i<65536) :
 oneEC (pageC v at_ i)=0∧oneNC (pageC v at_ i)=nextC at_ i∧onePC (pageC v at_ i)=partC v i:=by
 obtain⟨e1,e2,e3⟩:=page_back 3 [cellC v at_ i] (pageC_fits v at_ i);have hl:=cellC_length v at_ i;have hE:oneEC (pageC v at_ i)=0:=by
  unfold oneEC pageC;rw[e1,e2,e3];simp[hl]
 have hw:=wordC_length (nextC at_ i);refine⟨hE,?_,?_⟩
 ·rw[oneNC,if_pos hE]
  unfold pageC;rw[e3];show(beVal ((cellC v at_ i).take 2):Int)=_;rw[cellC,List.take_append_of_le_length (by omega),List.take_of_length_le (by omega),beVal_word h2]
 ·rw[onePC,if_pos hE]
  unfold pageC;rw[e3];show(cellC v at_ i).drop 2=_;rw[cellC,List.drop_append_of_le_length (by omega),List.drop_of_length_le (by omega),List.nil_append]
def getFC (rd:Int→Int×Int×List UInt8):Nat→List UInt8→List Int→Int→List UInt8×List Int×Int
 | 0,_,_,_=>([],[],11)
 | n+1,s,at_,left=>
  let x:=rd (at_.getLastD 0)
  if x.1=10∨(x.1=0∧(x.2.2.length:Int)≠min left 119) then ([],[],11)
  else if x.1≠0 then ([],[],x.1)
  else if left-x.2.2.length=0∧x.2.1=0 then (s++x.2.2,at_,0)
  else if left-x.2.2.length=0∨pgC x.2.1=false∨x.2.1∈at_ then ([],[],11)
  else getFC rd n (s++x.2.2) (at_++[x.2.1]) (left-x.2.2.length)
def getC (rd:Int→Int×Int×List UInt8) (first size:Int):List UInt8×List Int×Int:=
 if needC size=0 then ([],[],1) else getFC rd 4 [] [first] size
theorem putC_parts {v:List UInt8} {at_:List Int} (h:putOkC v at_=true):needC v.length≠0∧at_.length=needC v.length∧aptC at_=true:=by
 simpa[putOkC,Bool.and_eq_true] using h
theorem aptC_at {at_:List Int} (h:aptC at_=true) {i:Nat} (hi:i<at_.length):pgC (atC at_ i)=true∧atC at_ i∉at_.take i:=by
 rw[aptC,List.all_eq_true] at h;have:=h i (by simpa using hi);simp at this;exact this
theorem pgC_lt {n:Int} (h:pgC n=true):2≤n∧n≤999:=by simpa[pgC] using h
theorem nextC_lt {at_:List Int} (h:aptC at_=true) (i:Nat):0≤nextC at_ i∧nextC at_ i<65536:=by
 unfold nextC
 split
 ·rename_i hi;have:=pgC_lt (aptC_at h hi).1;omega
 ·omega
theorem takeC_last (at_:List Int) {i:Nat} (hi:i<at_.length):(at_.take (i+1)).getLastD 0=atC at_ i:=by
 rw[List.take_succ_eq_append_getElem hi,List.getLastD_concat];simp[atC,hi]
theorem getC_back {v:List UInt8} {at_:List Int} (h:putOkC v at_=true) (rd:Int→Int×Int×List UInt8) (hrd:∀j,j<at_.length→rd (atC at_ j)=(0,nextC at_ j,partC v j)) :
 ∀m i,m=at_.length-i→i<at_.length→∀n,m≤n→getFC rd n (v.take (119*i)) (at_.take (i+1)) ((v.length:Int)-119*i)=(v,at_,0):=by
 obtain⟨h1,h2,h3⟩:=putC_parts h;have hf:=needC_fit h1;intro m
 induction m with
 | zero=>intro i hm hi;omega
 | succ m ih=>
  intro i hm hi n hn;obtain⟨n,rfl⟩:∃k,n=k+1:=⟨n-1,by omega⟩
  have hp:=pgC_lt (aptC_at h3 hi).1;have hpl:=partC_length (v:=v) (i:=i);have hin:119*i<v.length:=by omega
  rw[getFC,takeC_last at_ hi,hrd i hi];simp only;rw[if_neg (by rintro(h4|⟨_,h4⟩);exact absurd h4 (by decide);apply h4;rw[hpl];omega),if_neg (by simp)]
  by_cases hl:i+1<at_.length
  ·have en:nextC at_ i=atC at_ (i+1):=by rw[nextC,if_pos hl]
   obtain⟨g1,g2⟩:=aptC_at h3 hl;have g3:=pgC_lt g1;have hfull:(partC v i).length=119:=by rw[hpl];omega
   rw[if_neg (by rw[en];omega),if_neg (by
    rw[en,g1];rintro(h4|h4|h4)
    ·rw[hfull] at h4;omega
    ·cases h4
    ·exact g2 h4)]
   have:=ih (i+1) (by omega) hl n (by omega);exact qf63a92
  ·have en:nextC at_ i=0:=by rw[nextC,if_neg hl]
   rw[if_pos ⟨by rw[hpl];omega,en⟩,take_part,List.take_of_length_le (by omega),List.take_of_length_le (by omega)]
theorem getC_lost {v:List UInt8} {at_:List Int} (h:putOkC v at_=true) (rd:Int→Int×Int×List UInt8) (w:Nat) (e:Int) (he:e≠0) (he2:e≠10) (hw:w<at_.length) (hE:(rd (atC at_ w)).1=e) (hrd:∀j,j<w→rd (atC at_ j)=(0,nextC at_ j,partC v j)) :
 ∀m i,m=at_.length-i→i≤w→∀n,m≤n→getFC rd n (v.take (119*i)) (at_.take (i+1)) ((v.length:Int)-119*i)=([],[],e):=by
 obtain⟨h1,h2,h3⟩:=putC_parts h;have hf:=needC_fit h1;intro m
 induction m with
 | zero=>intro i hm hi;omega
 | succ m ih=>
  intro i hm hi n hn;obtain⟨n,rfl⟩:∃k,n=k+1:=⟨n-1,by omega⟩
  rw[getFC,takeC_last at_ (show i<at_.length by omega)]
  by_cases hiw:i=w
  ·subst hiw
   simp only[hE];rw[if_neg (by rintro(h4|⟨h4,_⟩);exact he2 h4;exact he h4),if_pos he]
  ·rw[hrd i (by omega)]
   simp only;have hpl:=partC_length (v:=v) (i:=i);have hl:i+1<at_.length:=by omega
   have en:nextC at_ i=atC at_ (i+1):=by rw[nextC,if_pos hl]
   obtain⟨g1,g2⟩:=aptC_at h3 hl;have g3:=pgC_lt g1;have hfull:(partC v i).length=119:=by rw[hpl];omega
   rw[if_neg (by rintro(h4|⟨_,h4⟩);exact absurd h4 (by decide);apply h4;rw[hpl];omega),if_neg (by simp),if_neg (by rw[en];omega),if_neg (by
    rw[en,g1];rintro(h4|h4|h4)
    ·rw[hfull] at h4;omega
    ·cases h4
    ·exact g2 h4)]
   have:=ih (i+1) (by omega) (by omega) n (by omega);exact qf63a92
open Go.RowKit
theorem cneed_any (n:Int) (w:World) :
 Calls Tryz.prog 177 #[.int .i64 n] w fun e w'=>e=.returned (.int .i64 (needC n:Int))∧w=w':=by
 by_cases h1:n≤16
 ·have d1:decide (n≤16)=true:=by simpa using h1
  have HN:=Hd (show needC n=0 by rw[needC,if_pos (.inl h1)]);go_enter Tryz.func177,Tryz.ntmps177
  go_wp2
  go_ret;exact⟨ret_int (by rw[HN.out];rfl),rfl⟩
 ·have d1:decide (n≤16)=false:=by simpa using h1
  by_cases h2:400<n
  ·have d2:decide (400<n)=true:=by simpa using h2
   have HN:=Hd (show needC n=0 by rw[needC,if_pos (.inr h2)]);go_enter Tryz.func177,Tryz.ntmps177
   go_wp2
   go_ret;exact⟨ret_int (by rw[HN.out];rfl),rfl⟩
  ·have d2:decide (400<n)=false:=by simpa using h2
   have HN:=Hd (show needC n=((n+118) / 119).toNat by rw[needC,if_neg (by omega)]);go_enter Tryz.func177,Tryz.ntmps177
   go_wp2
   go_ret;exact⟨ret_int (by rw[HN.out];omega),rfl⟩
theorem crneed_any (n:Int) (w:World) :
 Calls Tryz.prog 89 #[.int .i64 n] w fun e w'=>e=.returned (.int .i64 (needC n:Int))∧w=w':=by
 have hle:=needC_le n
 by_cases h1:16<n∧n≤400
 ·have hq:∀k:Nat,((k:Int)*119<n↔k<needC n):=by
   intro k;unfold needC
   split<;>omega
  have d1:decide (16<n)=true:=by simpa using h1.1
  have d2:decide (n≤400)=true:=by simpa using h1.2
  have HQ:=Hd hq;generalize hm:needC n=m at *;have HM:=Hd hm;clear hq hm;go_enter Tryz.func89,Tryz.ntmps89
  go_wp2
  go_loop [3] (fun s=>∃k:Nat,s=.int .i64 k∧k≤m) (fun s=>m-(intOf s).toNat)
  case atStart=>exact⟨0,rfl,Nat.zero_le _⟩
  case round=>
   obtain⟨k,rfl,hk⟩:=hrel;have hq:=HQ.out k
   by_cases hlt:k<m
   ·have d3:decide ((k:Int)*119<n)=true:=by simpa using hq.2 hlt
    clear hq;go_wp2_with fail
    go_round
    case rel=>exact⟨k+1,by go_num,hlt⟩
    case measure=>simp[intOf];omega
   ·have d3:decide ((k:Int)*119<n)=false:=by simpa using fun h=>hlt (hq.1 h)
    obtain rfl:k=m:=by omega
    clear hq;go_wp2_with fail;go_ret;exact⟨rfl,rfl⟩
 ·have HN:=Hd (show needC n=0 by rw[needC,if_pos (by omega)])
  have dd:decide (16<n)=false∨(decide (16<n)=true∧decide (n≤400)=false):=by
   by_cases h:16<n
   ·right;exact⟨by simpa using h,by simp;omega⟩
   ·left;simpa using h
  go_enter Tryz.func89,Tryz.ntmps89
  go_wp2
  go_loop [3] (fun s=>s=.int .i64 0) (fun _=>1)
  case atStart=>rfl
  case round=>
   subst hrel
   rcases dd with d1|⟨d1,d2⟩
   ·go_wp2_with fail
    go_ret;exact⟨ret_int (by rw[HN.out];rfl),rfl⟩
   ·go_wp2_with fail
    go_ret;exact⟨ret_int (by rw[HN.out];rfl),rfl⟩
open Go.RowKit
theorem Row.cellC {w:World} {a:Option Addr} {len cap:Nat} {l:List Int} (h:Row .i64 w a len cap l) {k:Nat} (hk:k<len) :
 ∃b off,a=some ⟨b,off,none⟩∧b<w.heap.size∧∀i,i<len→w.cell? ⟨b,off+i,none⟩=some (.int .i64 (atC l i)):=by
 rcases h.2.2.2.2 with h0|h0
 ·omega
 ·exact h0
theorem Row.lensC {k:IntKind} {w:World} {a:Option Addr} {len cap:Nat} {l:List Int} (h:Row k w a len cap l):l.length=len∧len≤cap∧cap≤9223372036854775807:=⟨h.1,h.2.1,by have:=h.2.2.1;unfold maxLen at this;omega⟩
theorem cpart_any (n:Nat) (i:Nat) (hn:n≤1000) (hi:i≤100) (w:World) :
 Calls Tryz.prog 185 #[.int .i64 (n:Int),.int .i64 (i:Int)] w fun e w'=>e=.returned (.int .i64 (min ((n:Int)-119*i) 119))∧w=w':=by
 by_cases h1:(119:Int)<(n:Int)-119*i
 ·have d1:decide ((119:Int)<(n:Int)-119*(i:Int))=true:=by simpa using h1
  have HE:=Hd (show min ((n:Int)-119*i) 119=119 by omega);go_enter Tryz.func185,Tryz.ntmps185
  go_wp2
  go_ret;exact⟨ret_int HE.out.symm,rfl⟩
 ·have d1:decide ((119:Int)<(n:Int)-119*(i:Int))=false:=by simpa using h1
  have HE:=Hd (show min ((n:Int)-119*i) 119=(n:Int)-119*i by omega);go_enter Tryz.func185,Tryz.ntmps185
  go_wp2
  go_ret;exact⟨ret_int HE.out.symm,rfl⟩
theorem chas_any {w:World} {a:Option Addr} {len cap:Nat} {l:List Int} (h:Row .i64 w a len cap l) (x:Int) :
 Calls Tryz.prog 186 #[.slice a len cap,.int .i64 x] w fun e w'=>e=.returned (.bool (decide (x∈l)))∧w=w':=by
 obtain⟨hl,hc,hm⟩:=h.lensC;have HL:=Hd hl;have HR:=Hd h;clear hl h;go_enter Tryz.func186,Tryz.ntmps186
 go_wp2
 go_loop [5] (fun s=>∃i:Nat,i≤len∧s=.int .i64 i∧∀j,j<i→atC l j≠x) (fun s=>len-(intOf s).toNat)
 case atStart=>exact⟨0,Nat.zero_le _,rfl,fun j hj=>by omega⟩
 case round=>
  obtain⟨i,hi,rfl,hall⟩:=hrel
  by_cases hlt:i<len
  ·obtain⟨b,off,rfl,hb,hcell⟩:=HR.out.cellC hlt
   have c1:=hcell i hlt
   by_cases hx:atC l i=x
   ·have HY:Hid (x∈l):=Hd (by
     rw[←hx,atC,List.getElem?_eq_getElem (by rw[HL.out];exact hlt)];exact List.getElem_mem _)
    rw[hx] at c1;have e1:(x == x)=true:=by simp
    clear hcell hall hx;go_wp2_with fail;go_ret;exact⟨ret_bool (decide_eq_true HY.out).symm,rfl⟩
   ·have HN:Hid (∀j,j<i+1→atC l j≠x):=Hd (fun j hj=>by
     by_cases hji:j=i
     ·subst hji;exact hx
     ·exact hall j (by omega))
    have e1:(atC l i == x)=false:=by simpa using hx
    clear hcell hall hx;generalize atC l i=y at *;go_wp2_with fail
    go_round
    case rel=>exact⟨i+1,hlt,by go_num,HN.out⟩
    case measure=>simp[intOf];omega
  ·obtain rfl:i=len:=by omega
   have HN:Hid (x∉l):=Hd (fun hx=>by
    obtain⟨j,hj,e⟩:=List.getElem_of_mem hx;exact hall j (by rw[←HL.out];exact hj) (by rw[atC,List.getElem?_eq_getElem hj,e];rfl))
   clear hall;go_wp2_with fail;go_ret;exact⟨ret_bool (decide_eq_false HN.out).symm,rfl⟩
end Go.Proofs.YtpghlmcoajaiiaaGreatDoor
namespace Go.Proofs.YtpghlmcoajaiiaaGreatDoor
open Go.RowKit Go.Maps
def intR (v:Value):Option (DataW Unit×List MemPlace):=match v with | .int .i64 n=>some (.lit (.int .i64 n),[])|_=>none
theorem intR_inv {v:Value} {n:Int} {ps:List MemPlace} (h:intR v=some (.lit (.int .i64 n),ps)):v=.int .i64 n:=by
 unfold intR at h
 split at h
 ·simp at h;rw[h.1]
 ·cases h
theorem elem_intsC:Tryz.prog.underlying 35=some (.slice (Tryz.prog.elem 35)):=by kernel_rfl
theorem size_intsC (w:World):(sizeOf (Tryz.prog.elem 35)).run Tryz.prog w=.ok 1 w:=by kernel_rfl
def I64 (n:Int):Prop := -9223372036854775808≤n∧n≤9223372036854775807
def CtMap (w:World) (mb n:Nat) (f:Int→Nat):Prop:=
 ∃D:DataW Unit,w.ownsMap Tryz.prog 3 intR mb n D∧IsMap D∧∀p:Int,D.atKey (.int .i64 p) (.lit (.int .i64 0))=.lit (.int .i64 (f p:Int))
theorem int_keyW:Keyed Tryz.prog 3:=int_keyed Tryz.underlying3
theorem key_intW (p:Int) (h:I64 p):keyOf Tryz.prog 3 (.int .i64 p)=some (.int .i64 p):=
 keyOf_int_mk Tryz.underlying3 (by unfold I64 at h;simp[Lit.wf,IntKind.min,IntKind.max,IntKind.signed,IntKind.bits];omega)
theorem CtMap.made (w:World):CtMap (w.alloc (.map #[] 0)) w.heap.size 0 (fun _=>0):=
 ⟨.map [],World.ownsMap_made _ _ _ _,isMap_empty,fun _=>rfl⟩
theorem CtMap.lt {w:World} {mb n:Nat} {f:Int→Nat} (h:CtMap w mb n f):mb<w.heap.size:=by
 obtain⟨D,h1,_⟩:=h;exact h1.lt
theorem zero_int (w:World):(zeroValue 3).run Tryz.prog w=.ok (.int .i64 0) w:=by kernel_rfl
theorem CtMap.lookup {w:World} {mb n:Nat} {f:Int→Nat} (h:CtMap w mb n f) (p:Int) (hp:I64 p) :
 (Instr.lookup 132 (.map (some mb)) (.int .i64 p) false).run Tryz.prog w=.ok (.int .i64 (f p:Int)) w:=by
 obtain⟨D,h1,_,h3⟩:=h;obtain⟨v,ps,hr,hv⟩:=h1.lookup int_keyW Tryz.underlying132 (zero_int w) (show intR (.int .i64 0)=some (.lit (.int .i64 0),[]) from rfl) (key_intW p hp);rw[h3] at hv;rw[hr,intR_inv hv]
theorem CtMap.update {w:World} {mb n:Nat} {f:Int→Nat} (h:CtMap w mb n f) (p:Int) (hp:I64 p) (c:Nat) (hn:n≤1000000) :
 ∃w',(Instr.mapUpdate 132 (.map (some mb)) (.int .i64 p) (.int .i64 (c:Int))).run Tryz.prog w=.ok () w'∧CtMap w' mb (n+1) (fun q=>if q=p then c else f q)∧w.grownBy w' (some mb):=by
 obtain⟨D,h1,h2,h3⟩:=h;obtain⟨w',hr,ho,hg⟩:=h1.update int_keyW Tryz.underlying132 (by unfold maxLen;omega) (key_intW p hp) (show intR (.int .i64 (c:Int))=some (.lit (.int .i64 (c:Int)),[]) from rfl);refine⟨w',hr,⟨_,ho,h2.put _ _,fun q=>?_⟩,hg⟩;dsimp only
 by_cases hq:q=p
 ·subst hq
  rw[atKey_put_same h2 (int_keyW.key (key_intW q hp)),if_pos rfl]
 ·rw[atKey_put_other (by simp;omega),h3,if_neg hq]
theorem CtMap.inc {w:World} {mb n:Nat} {L:List Int} (h:CtMap w mb n (fun q=>L.count q)) (p:Int) (hp:I64 p) (hn:n≤1000000) :
 ∃w',(Instr.mapUpdate 132 (.map (some mb)) (.int .i64 p) (.int .i64 ((L.count p:Int)+1))).run Tryz.prog w=.ok () w'∧CtMap w' mb (n+1) (fun q=>(L++[p]).count q)∧w.grownBy w' (some mb):=by
 obtain⟨w',h1,h2,h3⟩:=h.update p hp (L.count p+1) hn;refine⟨w',by rw[←h1];rfl,?_,h3⟩;have e:(fun q=>if q=p then L.count p+1 else L.count q)=fun q=>(L++[p]).count q:=by
  funext q
  rw[List.count_append]
  by_cases hq:q=p
  ·subst hq;simp
  ·rw[if_neg hq,List.count_eq_zero_of_not_mem (a:=q) (l:=[p]) (by simpa using hq)];rfl
 rw[←e];exact h2
end Go.Proofs.YtpghlmcoajaiiaaGreatDoor
namespace Go.Proofs.YtpghlmcoajaiiaaGreatDoor
open Go.RowKit Go.Maps
theorem CtMap.kept {w w':World} {mb n:Nat} {f:Int→Nat} (h:CtMap w mb n f) (hb:w'.heap[mb]? = w.heap[mb]?):CtMap w' mb n f:=by
 obtain⟨D,⟨es,c,h1,h2⟩,h3⟩:=h;exact⟨D,⟨es,c,hb.trans h1,h2⟩,h3⟩
theorem info_i64C:(Tryz.prog.info? 3).map (fun i=>(i.zero,i.size,i.bytes))=some (some (.int .i64 0),1,8):=by kernel_rfl
def Plc (B:Nat) (w:World) (pb:Nat) (L:List Int):Prop:=∃v mb n,w.heap[pb]? = some (.cells #[v,.map (some mb)] 323 (0,0))∧w.ownsRow B 3 1 v L.length (L.map (Value.int .i64))∧CtMap w mb n (fun q=>L.count q)∧n≤L.length∧B≤pb∧B≤mb∧pb≠mb∧v.ownBlock≠some pb∧v.ownBlock≠some mb
theorem Plc.below {B:Nat} {w w':World} {pb:Nat} {L:List Int} (h:Plc B w pb L) (hb:Below w.heap.size w w'):Plc B w' pb L:=by
 obtain⟨v,mb,n,h1,h2,h3,h4⟩:=h;exact⟨v,mb,n,(hb.block pb (Array.getElem?_eq_some_iff.1 h1).1).trans h1,own_below h2 (Nat.le_refl _) hb,h3.kept (hb.block mb h3.lt),h4⟩
def KeepU (w w':World):Prop:=∀(k:Nat) (c:Array Value) (t:TypeId),t≠3→t≠323→w.heap[k]? = some (Obj.cells c t (0,0))→w'.heap[k]? = some (Obj.cells c t (0,0))
theorem KeepU.refl (w:World):KeepU w w:=fun _ _ _ _ _ h=>h
theorem KeepU.own {w w':World} (h:KeepU w w') {base:Nat} {size:Nat} {v:Value} {n:Nat} {xs:List Value} (ho:w.ownsRow base 5 size v n xs):w'.ownsRow base 5 size v n xs:=
 ⟨ho.1,ho.2.imp id fun⟨g,cap,cur,e1,hg1,hh,r⟩=>⟨g,cap,cur,e1,hg1,h g _ _ (by decide) (by decide) hh,r⟩⟩
def AddPost (B:Nat) (w:World) (pb:Nat) (L:List Int) (x:Int) (e:Ending) (w':World):Prop:=
 Below B w w'∧KeepU w w'∧(if pgC x=true∧x∉L then e=.returned (.bool true)∧Plc B w' pb (L++[x]) else e=.returned (.bool false)∧w=w')
theorem add_any {B:Nat} {w:World} {pb:Nat} {L:List Int} (h:Plc B w pb L) (hL:L.length≤1000) (x:Int) (hx:I64 x) :
 Calls Tryz.prog 179 #[.pointer (some ⟨pb,0,none⟩),.int .i64 x] w (AddPost B w pb L x):=by
 obtain⟨v,mb,n,h1,h2,h3,h4,hB1,hB2,n1,n2,n3⟩:=h;have hpb:=(Array.getElem?_eq_some_iff.1 h1).1;have c0:w.cell? ⟨pb,0,none⟩=some v:=by simp[World.cell?,h1]
 have c1:w.cell? ⟨pb,1,none⟩=some (.map (some mb)):=by simp[World.cell?,h1]
 have hlk:=h3.lookup x hx
 by_cases hp:pgC x=true
 ·have hpx:=pgC_lt hp
  have d0:decide (x<2)=false:=by simp;omega
  have d1:decide (999<x)=false:=by simp;omega
  have hcm:x∈L↔0<L.count x:=List.count_pos_iff.symm;obtain⟨ct,hct⟩:∃ct,L.count x=ct:=⟨_,rfl⟩
  rw[hct] at hlk hcm
  by_cases h0:0<ct
  ·have d2:decide ((0:Int)<ct)=true:=by simp;omega
   have d2':decide (0<ct)=true:=by simpa using h0
   have HE:Hid (AddPost B w pb L x (.returned (.bool false)) w):=Hd ⟨Below.refl _ _,KeepU.refl _,by rw[if_neg (fun h=>h.2 (hcm.2 h0))];exact⟨rfl,rfl⟩⟩;clear h1 h2 h3 hct hcm hp;go_enter Tryz.func179,Tryz.ntmps179;go_wp2_with fail;go_ret;exact HE.out
  ·have d2:decide ((0:Int)<ct)=false:=by simp;omega
   have d2':decide (0<ct)=false:=by simpa using h0
   have hmem:x∉L:=fun h=>h0 (hcm.1 h)
   obtain⟨i0,hi,hz0,hz1,hz2⟩:=info_parts info_i64C;have hBw:B≤w.heap.size:=by omega
   obtain⟨v',w1,hr1,ho1,hg1,hv1⟩:=run_append_new (P:=Tryz.prog) (w:=w) B 35 3 i0 _ 1 8 Tryz.underlying35 hi hz0 hz1 hz2 rfl (by decide) h2 #[.int .i64 x] rfl (by intro u hu;simp at hu;subst hu;rfl) (by unfold maxLen;omega) (by omega) hBw;have hge:=own_ge h2;have e1:w1.heap[pb]? = some (.cells #[v,.map (some mb)] 323 (0,0)):=(hg1.block pb hpb (fun e=>n2 e.symm)).trans h1;have k0:w1.cell? ⟨pb,0,none⟩=some v:=by simp[World.cell?,e1]
   have f0:w1.frozen? ⟨pb,0,none⟩=false:=by simp[World.frozen?,e1]
   have m1:CtMap w1 mb n (fun q=>L.count q):=h3.kept (hg1.block mb h3.lt (fun e=>n3 e.symm));obtain⟨w2,hw2⟩:∃w2,w2=w1.setCell ⟨pb,0,none⟩ v':=⟨_,rfl⟩
   have e2:w2.heap[pb]? = some (.cells #[v',.map (some mb)] 323 (0,0)):=by rw[hw2,heap_setCell_at 0 _ e1];rfl
   have k1:w2.cell? ⟨pb,1,none⟩=some (.map (some mb)):=by simp[World.cell?,e2]
   have m2:CtMap w2 mb n (fun q=>L.count q):=m1.kept (by rw[hw2];exact Below.heap_setCell _ _ _ mb (fun e=>n1 e.symm));have hlk2:=m2.lookup x hx;obtain⟨w3,hu3,m3,hg3⟩:=m2.inc x hx (by omega);rw[hct] at hlk2 hu3;have n2':v'.ownBlock≠some pb:=by
    rcases hv1 with h|h
    ·rw[h];exact n2
    ·rw[h];intro e;have:=Option.some.inj e;omega
   have n3':v'.ownBlock≠some mb:=by
    have:=h3.lt
    rcases hv1 with h|h
    ·rw[h];exact n3
    ·rw[h];intro e;have:=Option.some.inj e;omega
   have ho2:w2.ownsRow B 3 1 v' (L.length+1) (L.map (Value.int .i64)++[.int .i64 x]):=by rw[hw2];exact own_set ho1 ⟨pb,0,none⟩ v' n2'
   have ho3:w3.ownsRow B 3 1 v' (L.length+1) (L.map (Value.int .i64)++[.int .i64 x]):=ho2.kept hg3 (.inr n3');have e3:w3.heap[pb]? = some (.cells #[v',.map (some mb)] 323 (0,0)):=(hg3.block pb (Array.getElem?_eq_some_iff.1 e2).1 (fun e=>n1 (Option.some.inj e))).trans e2;have hb1:Below B w w1:=(Below.refl _ _).grown hg1 hBw hge;have hb2:Below B w w2:=by rw[hw2];exact hb1.setCell hB1 _
   have hb3:Below B w w3:=hb2.grown hg3 (Nat.le_trans hBw hb2.size) (fun k e=>by cases e;exact hB2);have hku:KeepU w w3:=by
    intro k c t ht1 ht2 hk;have hkl:=(Array.getElem?_eq_some_iff.1 hk).1;have j1:w1.heap[k]? = some (.cells c t (0,0)):=by
     rw[hg1.block k hkl (fun e=>?_)]
     ·exact hk
     ·rcases h2.2 with⟨rfl,_⟩|⟨g,cap,cur,rfl,_,hh,_⟩
      ·cases e
      ·cases e
       rw[hh] at hk;cases hk;exact absurd rfl ht1
    have j2:w2.heap[k]? = some (.cells c t (0,0)):=by
     rw[hw2,Below.heap_setCell _ _ _ k (fun e=>by
      have e':k=pb:=e;subst e';rw[h1] at hk;cases hk;exact absurd rfl ht2)]
     exact j1
    rw[hg3.block k (Array.getElem?_eq_some_iff.1 j2).1 (fun e=>?_)]
    ·exact j2
    ·cases e
     obtain⟨_,⟨es,cl,hm,_⟩,_⟩:=m2;rw[hm] at j2;cases j2
   have HE:Hid (AddPost B w pb L x (.returned (.bool true)) w3):=Hd ⟨hb3,hku,by
    rw[if_pos ⟨hp,hmem⟩];exact⟨rfl,v',mb,n+1,e3,by rw[List.length_append,List.map_append];exact ho3,m3,by simp;omega,hB1,hB2,n1,n2',n3'⟩⟩
   have HW2:=Hd hw2;obtain⟨av,cv,rfl,_⟩:=own_slice h2;obtain⟨av',cv',rfl,_⟩:=own_slice ho1;rw[hw2] at k1 hlk2 hu3;clear h1 h2 h3 hct hcm hp hpx hmem ho1 hg1 hv1 hge e1 m1 e2 m2 m3 hg3 n2' n3' ho2 ho3 e3 hb1 hb2 hb3 hku hw2 hi hz0 hz1 hz2;go_enter Tryz.func179,Tryz.ntmps179
   go_wp2_with (at_builtin;refine wpList_append_run rfl _ _ _ _ rfl rfl rfl hr1 ?_)
   go_ret;exact HE.out
 ·have HE:Hid (AddPost B w pb L x (.returned (.bool false)) w):=Hd ⟨Below.refl _ _,KeepU.refl _,by rw[if_neg (fun h=>hp h.1)];exact⟨rfl,rfl⟩⟩
  have hpx:x<2∨999<x:=by
   unfold pgC at hp;simp at hp;omega
  clear h1 h2 h3 hp
  by_cases h2:x<2
  ·have d0:decide (x<2)=true:=by simpa using h2
   go_enter Tryz.func179,Tryz.ntmps179;go_wp2_with fail;go_ret;exact HE.out
  ·have d0:decide (x<2)=false:=by simpa using h2
   have d1:decide (999<x)=true:=by simp;omega
   go_enter Tryz.func179,Tryz.ntmps179;go_wp2_with fail;go_ret;exact HE.out
theorem plc_new (w:World) (first:Int) (hf:I64 first):∃w2,(Instr.mapUpdate 132 (.map (some w.heap.size)) (.int .i64 first) (.int .i64 1)).run Tryz.prog (w.alloc (.map #[] 0))=.ok () w2 ∧
 Plc w.heap.size ((w2.alloc (.cells #[.int .i64 first] 3)).alloc (.cells #[.slice (some ⟨w2.heap.size,0,none⟩) 1 1,.map (some w.heap.size)] 323)) (w2.heap.size+1) [first]∧Below w.heap.size w ((w2.alloc (.cells #[.int .i64 first] 3)).alloc (.cells #[.slice (some ⟨w2.heap.size,0,none⟩) 1 1,.map (some w.heap.size)] 323)):=by
 have m0:CtMap (w.alloc (.map #[] 0)) w.heap.size 0 (fun q=>([]:List Int).count q):=by simpa using CtMap.made w
 obtain⟨w2,hu,m2,hg2⟩:=m0.inc first hf (by omega)
 have hu':(Instr.mapUpdate 132 (.map (some w.heap.size)) (.int .i64 first) (.int .i64 1)).run Tryz.prog (w.alloc (.map #[] 0))=.ok () w2:=hu;have hb2:Below w.heap.size w w2:=((Below.refl _ _).alloc (Nat.le_refl _) _).grown hg2 (by simp) (fun k e=>by cases e;exact Nat.le_refl _);have hs2:=hg2.size;have hsz:(w.alloc (.map #[] 0)).heap.size=w.heap.size+1:=by simp
 obtain⟨w3,hw3⟩:∃w3,w3=w2.alloc (.cells #[.int .i64 first] 3):=⟨_,rfl⟩
 have ho3:w3.ownsRow w.heap.size 3 1 (.slice (some ⟨w2.heap.size,0,none⟩) 1 1) 1 [.int .i64 first]:=by
  rw[hw3];exact own_made .i64 w2 3 [first] rfl (by omega) (by unfold maxLen;simp)
 have h3s:w3.heap.size=w2.heap.size+1:=by rw[hw3];simp
 have hb3:Below w.heap.size w w3:=by rw[hw3];exact hb2.alloc hb2.size _
 have m3:CtMap w3 w.heap.size (0+1) (fun q=>([]++[first]).count q):=m2.kept (by rw[hw3];exact Below.heap_alloc _ _ _ (by omega));have hA:Below w3.heap.size w3 (w3.alloc (.cells #[.slice (some ⟨w2.heap.size,0,none⟩) 1 1,.map (some w.heap.size)] 323)):=(Below.refl _ _).alloc (Nat.le_refl _) _;refine⟨w2,hu',?_,?_⟩
 ·rw[←hw3]
  refine⟨.slice (some ⟨w2.heap.size,0,none⟩) 1 1,w.heap.size,1,?_,own_below ho3 (Nat.le_refl _) hA,m3.kept (hA.block _ m3.lt),by simp,by omega,Nat.le_refl _,by omega,fun e=>?_,fun e=>?_⟩
  ·rw[←h3s];exact World.alloc_heap_new _ _
  ·have:=Option.some.inj e
   simp at this
  ·have:=Option.some.inj e
   simp at this;omega
 ·rw[←hw3];exact below_then hb3 hA
end Go.Proofs.YtpghlmcoajaiiaaGreatDoor
namespace Go.Proofs.YtpghlmcoajaiiaaGreatDoor
open Go.RowKit Go.Maps
end Go.Proofs.YtpghlmcoajaiiaaGreatDoor
namespace Go.Proofs.YtpghlmcoajaiiaaGreatDoor
open Go.RowKit
open Go.RowKit
def oneFEC (d:List Rg) (r p:Int):Int:=if pagedE d r p≠0 then pagedE d r p else oneEC (readB d r p)
def oneFNC (d:List Rg) (r p:Int):Int:=if pagedE d r p≠0 then 0 else oneNC (readB d r p)
def oneFPC (d:List Rg) (r p:Int):List UInt8:=if pagedE d r p≠0 then [] else onePC (readB d r p)
def OneC (w:World) (E N:Int) (l:List UInt8) (e:Ending) (w':World):Prop:=
 ∃v,e=.returned (.tuple #[.int .i64 N,v,.int .i64 E])∧w'.ownsRow w.heap.size 5 1 v l.length ((toI l).map (Value.int .u8))∧Below w.heap.size w w'
theorem oneC_nil {w w':World} {E:Int} (h:Below w.heap.size w w'):OneC w E 0 [] (.returned (.tuple #[.int .i64 0,.slice none 0 0,.int .i64 E])) w':=⟨_,rfl,World.ownsRow_nil _ _ _ _,h⟩
theorem neqC_true {E:Int} (h:E≠0):(E != 0)=true:=by simpa using h
theorem cone_page {w:World} {B da M:Nat} {d:List Rg} (h:One B w da M d) (r p:Int) (hE:pagedE d r p≠0) :
 Calls Tryz.prog 178 #[.pointer (some ⟨da,0,none⟩),.int .i64 r,.int .i64 p] w (OneC w (oneFEC d r p) (oneFNC d r p) (oneFPC d r p)):=by
 have hr:=read_o h r p;have HF:=Hd (show oneFEC d r p=pagedE d r p by rw[oneFEC,if_pos hE]);have HN:=Hd (show oneFNC d r p=0 by rw[oneFNC,if_pos hE]);have HL:=Hd (show oneFPC d r p=[] by rw[oneFPC,if_pos hE]);have hb:=neqC_true hE;generalize pagedE d r p=E at *;clear hE;go_enter Tryz.func178,Tryz.ntmps178;go_wp2_with fail;refine hr.mono ?_;rintro e w1 ⟨v1,rfl,ho1,hb1⟩;clear hr;go_wp2_with fail
 go_ret3
 rw[HF.out,HN.out,HL.out];exact oneC_nil hb1
theorem cone_bad {w:World} {B da M:Nat} {d:List Rg} (h:One B w da M d) (hh:Half w) (r p:Int) (hE:pagedE d r p=0) (hU:unpE (readB d r p)≠0) :
 Calls Tryz.prog 178 #[.pointer (some ⟨da,0,none⟩),.int .i64 r,.int .i64 p] w (OneC w (oneFEC d r p) (oneFNC d r p) (oneFPC d r p)):=by
 have hr:=read_o h r p;rw[hE] at hr;have he:oneEC (readB d r p)=unpE (readB d r p):=by rw[oneEC,if_pos hU]
 have HF:=Hd (show oneFEC d r p=unpE (readB d r p) by rw[oneFEC,if_neg (by rw[hE];simp),he]);have HN:=Hd (show oneFNC d r p=0 by rw[oneFNC,if_neg (by rw[hE];simp),oneNC,he,if_neg hU]);have HL:=Hd (show oneFPC d r p=[] by rw[oneFPC,if_neg (by rw[hE];simp),onePC,he,if_neg hU]);have hb:=neqC_true hU;clear he;generalize readB d r p=b at *;generalize hUE:unpE b=E at *;have HUE:=Hd hUE;clear hE hU hUE;go_enter Tryz.func178,Tryz.ntmps178;go_wp2_with fail;refine hr.mono ?_;rintro e w1 ⟨v1,rfl,ho1,hb1⟩;obtain⟨a1,c1,rfl,hbs1⟩:=Bs.of_own ho1;have hu:=unpack_any a1 b.length c1 b w1 hbs1 (hh.below (Nat.le_refl _) hb1);rw[HUE.out] at hu;clear hr ho1 hbs1;go_wp2_with fail;refine hu.mono ?_;rintro e w2 ⟨v2,rfl,ho2,hb2⟩;have hB:=below_then hb1 hb2;clear hu ho2 hb1 hb2;go_wp2_with fail
 go_ret3
 rw[HF.out,HN.out,HL.out];exact oneC_nil hB
theorem cone_form {w:World} {B da M:Nat} {d:List Rg} (h:One B w da M d) (hh:Half w) (r p:Int) (hE:pagedE d r p=0) (hU:unpE (readB d r p)=0) (hC:unpK (readB d r p)≠3∨(unpL (readB d r p)).length≠1) :
 Calls Tryz.prog 178 #[.pointer (some ⟨da,0,none⟩),.int .i64 r,.int .i64 p] w (OneC w (oneFEC d r p) (oneFNC d r p) (oneFPC d r p)):=by
 have hr:=read_o h r p;rw[hE] at hr;have he:oneEC (readB d r p)=11:=by rw[oneEC,if_neg (by rw[hU];simp),if_pos hC]
 have HF:=Hd (show oneFEC d r p=11 by rw[oneFEC,if_neg (by rw[hE];simp),he]);have HN:=Hd (show oneFNC d r p=0 by rw[oneFNC,if_neg (by rw[hE];simp),oneNC,he];rfl);have HL:=Hd (show oneFPC d r p=[] by rw[oneFPC,if_neg (by rw[hE];simp),onePC,he];rfl);clear he;generalize readB d r p=b at *;have HUE:=Hd hU;clear hE hU;have main:∀(w1:World) (a1:Option Addr) (c1:Nat),Bs w1 a1 b.length c1 b→Below w.heap.size w w1→Calls Tryz.prog 138 #[.slice a1 b.length c1] w1 (UnpPost w1 (unpK b) (unpL b) 0):=fun w1 a1 c1 hbs hb=>by
  have hu:=unpack_any a1 b.length c1 b w1 hbs (hh.below (Nat.le_refl _) hb)
  rwa [HUE.out] at hu
 generalize unpK b=k at *;generalize unpL b=L at *
 by_cases hk:k=3
 ·subst hk
  have hl:L.length≠1:=by
   rcases hC with h|h
   ·exact absurd rfl h
   ·exact h
  have d1:((L.length:Int) == 1)=false:=by rw[beq_eq_false_iff_ne];omega
  have d2:((L.length:Int) != 1)=true:=by rw[bne_iff_ne];omega
  clear hC;go_enter Tryz.func178,Tryz.ntmps178;go_wp2_with fail;refine hr.mono ?_;rintro e w1 ⟨v1,rfl,ho1,hb1⟩;obtain⟨a1,c1,rfl,hbs1⟩:=Bs.of_own ho1;have hu:=main w1 a1 c1 hbs1 hb1;clear hr ho1 hbs1;go_wp2_with fail;refine hu.mono ?_;rintro e w2 ⟨v2,rfl,ho2,hb2⟩;have hB:=below_then hb1 hb2;obtain⟨a2,c2,rfl,hbss⟩:=ho2.bss;have hl1:=hbss.2.1;have hl2:=hbss.2.2.1;unfold maxLen at hl2;clear hu ho2 hb1 hb2 hbss;go_wp2_with fail
  go_ret3
  rw[HF.out,HN.out,HL.out];exact oneC_nil hB
 ·have d1:((k.toNat:Int) == 3)=false:=by
   rw[beq_eq_false_iff_ne];intro e;exact hk (UInt8.toNat_inj.1 (by show k.toNat=3;omega))
  have d2:((k.toNat:Int) != 3)=true:=by rw[bne_iff_ne];exact beq_eq_false_iff_ne.1 d1
  clear hC;go_enter Tryz.func178,Tryz.ntmps178;go_wp2_with fail;refine hr.mono ?_;rintro e w1 ⟨v1,rfl,ho1,hb1⟩;obtain⟨a1,c1,rfl,hbs1⟩:=Bs.of_own ho1;have hu:=main w1 a1 c1 hbs1 hb1;clear hr ho1 hbs1;go_wp2_with fail;refine hu.mono ?_;rintro e w2 ⟨v2,rfl,ho2,hb2⟩;have hB:=below_then hb1 hb2;obtain⟨a2,c2,rfl,hbss⟩:=ho2.bss;clear hu ho2 hb1 hb2 hbss;go_wp2_with fail
  go_ret3
  rw[HF.out,HN.out,HL.out];exact oneC_nil hB
theorem taken_cell (C:List UInt8) (hC:C.length≤128):∃(x:Nat) (s1:TSt) (P:List UInt8) (s2:TSt),tNum ⟨C,0⟩ 2=(x,s1)∧tRest s1=(P,s2)∧x<65536∧s1.l.length≤128∧((C.length<2∧x=0∧P=[]∧s2.e=10)∨(2≤C.length∧x=beVal (C.take 2)∧P=C.drop 2∧s2.e=0)):=by
 by_cases h:C.length<2
 ·refine⟨0,⟨C,10⟩,[],⟨C,10⟩,?_,?_,by omega,hC,.inl ⟨h,rfl,rfl,rfl⟩⟩
  ·rw[tNum,if_neg (by simp)]
   have:takeF ⟨C,0⟩ (2:Int).toNat=([],⟨C,10⟩):=by rw[takeF,if_neg (by simp),if_pos (by simpa using h)]
   rw[this];rfl
  ·rw[tRest,takeF,if_pos (by simp)]
 ·refine⟨beVal (C.take 2),⟨C.drop 2,0⟩,C.drop 2,⟨[],0⟩,?_,?_,?_,by simp;omega,.inr ⟨by omega,rfl,rfl,rfl⟩⟩
  ·rw[tNum,if_neg (by simp)]
   have:takeF ⟨C,0⟩ (2:Int).toNat=(C.take 2,⟨C.drop 2,0⟩):=by rw[takeF,if_neg (by simp),if_neg (by simpa using h)];rfl
   rw[this]
  ·rw[tRest,takeF,if_neg (by simp),if_neg (by simp)]
   simp;exact⟨List.take_of_length_le (by simp),by omega⟩
  ·have h1:=beVal_lt (C.take 2)
   have h2:(C.take 2).length≤2:=by simp;omega
   have h3:(256:Nat) ^ (C.take 2).length≤256 ^ 2:=Nat.pow_le_pow_right (by omega) h2;omega
theorem unpLC_len (b:List UInt8) (i:Nat):((unpL b)[i]?.getD []).length≤128:=by
 unfold unpL
 split
 ·rename_i h0
  have hb:b.length=128:=by
   unfold unpE at h0
   split at h0
   ·cases h0
   ·omega
  cases hx:(cutS b (min (numS b) 122))[i]? with
  | none=>simp
  | some c=>
   have hm:=List.mem_of_getElem? hx;unfold cutS at hm;obtain⟨k,_,rfl⟩:=List.mem_map.1 hm;simp[cellS];omega
 ·simp
theorem cone_go {w:World} {B da M:Nat} {d:List Rg} (h:One B w da M d) (hh:Half w) (r p:Int) (hE:pagedE d r p=0) (hU:unpE (readB d r p)=0) (hk:unpK (readB d r p)=3) (hl:(unpL (readB d r p)).length=1) :
 Calls Tryz.prog 178 #[.pointer (some ⟨da,0,none⟩),.int .i64 r,.int .i64 p] w (OneC w (oneFEC d r p) (oneFNC d r p) (oneFPC d r p)):=by
 have hr:=read_o h r p;rw[hE] at hr;have hE1:oneEC (readB d r p)=if ((unpL (readB d r p))[0]?.getD []).length<2 then 10 else 0:=by rw[oneEC,if_neg (by rw[hU];simp),if_neg (by rw[hk,hl];simp)]
 have HF0:oneFEC d r p=if ((unpL (readB d r p))[0]?.getD []).length<2 then 10 else 0:=by rw[oneFEC,if_neg (by rw[hE];simp),hE1]
 have HN0:oneFNC d r p=if ((unpL (readB d r p))[0]?.getD []).length<2 then 0 else (beVal (((unpL (readB d r p))[0]?.getD []).take 2):Int):=by
  rw[oneFNC,if_neg (by rw[hE];simp),oneNC,hE1]
  split<;>simp
 have HL0:oneFPC d r p=if ((unpL (readB d r p))[0]?.getD []).length<2 then [] else ((unpL (readB d r p))[0]?.getD []).drop 2:=by
  rw[oneFPC,if_neg (by rw[hE];simp),onePC,hE1]
  split<;>simp
 have hC128:=unpLC_len (readB d r p) 0;generalize readB d r p=b at *;have HUE:=Hd hU;have HK:=Hd hk;have main:∀(w1:World) (a1:Option Addr) (c1:Nat),Bs w1 a1 b.length c1 b→Below w.heap.size w w1→Calls Tryz.prog 138 #[.slice a1 b.length c1] w1 (UnpPost w1 3 (unpL b) 0):=fun w1 a1 c1 hbs hb=>by
  have hu:=unpack_any a1 b.length c1 b w1 hbs (hh.below (Nat.le_refl _) hb)
  rwa [HUE.out,HK.out] at hu
 clear hE hU hk hE1;generalize unpL b=L at *;obtain⟨C,hC⟩:∃C,L[0]?.getD []=C:=⟨_,rfl⟩
 rw[hC] at HF0 HN0 HL0 hC128;obtain⟨x,s1,P,s2,t1,t2,hx,hs1,hcase⟩:=taken_cell C hC128;have hEND:oneFEC d r p=s2.e∧oneFNC d r p=(x:Int)∧oneFPC d r p=P:=by
  rcases hcase with⟨g1,g2,g3,g4⟩|⟨g1,g2,g3,g4⟩
  ·rw[HF0,HN0,HL0,if_pos g1,if_pos g1,if_pos g1,g2,g3,g4];exact⟨rfl,rfl,rfl⟩
  ·rw[HF0,HN0,HL0,if_neg (by omega),if_neg (by omega),if_neg (by omega),g2,g3,g4];exact⟨rfl,rfl,rfl⟩
 have HEND:=Hd hEND;have HC:=Hd hC;have HLL:=Hd hl;have hN:∀t W,Tk W t ⟨C,0⟩→Calls Tryz.prog 57 #[.pointer (some ⟨t,0,none⟩),.int .i64 2] W (TkPost W t (fun _ v=>v=.int .u64 (x:Int)) s1):=fun t W hW=>by
  have:=tNum_any t ⟨C,0⟩ 2 W hW (by simp only;omega);rwa [t1] at this
 have hRs:∀t W,Tk W t s1→Calls Tryz.prog 199 #[.pointer (some ⟨t,0,none⟩)] W (TkPost W t (fun w' v=>w'.ownsRow W.heap.size 5 1 v P.length ((toI P).map (Value.int .u8))) s2):=fun t W hW=>by
  have:=tRest_any t s1 W hW (by omega);rwa [t2] at this
 have HCL:=Hd hC128;clear hcase HF0 HN0 HL0 hEND hC hl t1 t2 hC128 hs1;go_enter Tryz.func178,Tryz.ntmps178;go_wp2_with fail;refine hr.mono ?_;rintro e w1 ⟨v1,rfl,ho1,hb1⟩;obtain⟨a1,c1,rfl,hbs1⟩:=Bs.of_own ho1;have hu:=main w1 a1 c1 hbs1 hb1;clear hr ho1 hbs1;go_wp2_with fail;refine hu.mono ?_;rintro e w2 ⟨v2,rfl,ho2,hb2⟩;have hB:=below_then hb1 hb2;obtain⟨a2,c2,rfl,hbss⟩:=ho2.bss;rw[HLL.out] at hbss ⊢;obtain⟨b3,o3,a3,n3,c3,rfl,hb3,hcell,hbs3⟩:=hbss.at (k:=0) (by omega);rw[HC.out] at hbs3;rw[Nat.add_zero] at hcell;have hcc:=hbss.2.1;have hT:=take_any a3 n3 c3 C w2 hbs3 (by have:=hbs3.len;have:=HCL.out;omega);have HB2:=Hd hB;clear hu ho2 hb1 hb2 hbss hbs3 hB main;go_wp2_with fail;refine hT.mono ?_;rintro e w3 ⟨rfl,htk,hlt,hb3'⟩;have hN3:=hN _ _ htk;have HB3:=Hd (below_then HB2.out hb3');have HLT:=Hd (Nat.le_trans HB2.out.size hlt);generalize w3.heap.size-1=t at *;clear hT hb3' htk hlt hcell hN;go_wp2_with fail;refine hN3.mono ?_;rintro e w4 ⟨v4,rfl,rfl,hg4,htk4⟩;have HB4:=Hd (below_take HB3.out HLT.out hg4);have hR4:=hRs _ _ htk4;clear hN3 hRs hg4 htk4;go_wp2_with fail;refine hR4.mono ?_;rintro e w5 ⟨v5,rfl,ho5,hg5,htk5⟩;have HB5:=Hd (below_take HB4.out HLT.out hg5);have hE5:=tErr_any _ _ w5 htk5;have HO5:=Hd (own_baseC ho5 HB4.out.size);clear hR4 hg5 htk5 ho5;go_wp2_with fail;refine hE5.mono ?_;rintro e w6 ⟨rfl,rfl⟩;clear hE5;go_wp2_with fail
 go_ret3
 obtain⟨k1,k2,k3⟩:=HEND.out;rw[k1,k2,k3];exact⟨_,rfl,HO5.out,HB5.out⟩
theorem cone_any {w:World} {B da M:Nat} {d:List Rg} (h:One B w da M d) (hh:Half w) (r p:Int) :
 Calls Tryz.prog 178 #[.pointer (some ⟨da,0,none⟩),.int .i64 r,.int .i64 p] w (OneC w (oneFEC d r p) (oneFNC d r p) (oneFPC d r p)):=by
 by_cases hE:pagedE d r p=0
 ·by_cases hU:unpE (readB d r p)=0
  ·by_cases hC:unpK (readB d r p)≠3∨(unpL (readB d r p)).length≠1
   ·exact cone_form h hh r p hE hU hC
   ·simp only[not_or,ne_eq,Decidable.not_not] at hC
    exact cone_go h hh r p hE hU hC.1 hC.2
  ·exact cone_bad h hh r p hE hU
 ·exact cone_page h r p hE
open Go.RowKit
def rdC (d:List Rg) (r:Int) (p:Int):Int×Int×List UInt8:=(oneFEC d r p,oneFNC d r p,oneFPC d r p)
def getDC (d:List Rg) (r first size:Int):List UInt8×List Int×Int:=getC (rdC d r) first size
theorem RegAt.oneC {d:List Rg} {r n:Nat} {f:Nat→List UInt8} (h:RegAt d r n f) {p:Int} (hp:0≤p∧p<n):rdC d r p=(oneEC (f p.toNat),oneNC (f p.toNat),onePC (f p.toNat)):=by
 have he:=h.paged p;rw[if_pos hp] at he;unfold rdC oneFEC oneFNC oneFPC;rw[if_neg (by rw[he];simp),if_neg (by rw[he];simp),if_neg (by rw[he];simp),h.read hp]
theorem putC_one {v:List UInt8} {at_:List Int} (h:putOkC v at_=true) (i:Nat):oneEC (pageC v at_ i)=0∧oneNC (pageC v at_ i)=nextC at_ i∧onePC (pageC v at_ i)=partC v i:=
 oneC_page v at_ i (nextC_lt (putC_parts h).2.2 i)
theorem gotC_back {v:List UInt8} {at_:List Int} (h:putOkC v at_=true) {d:List Rg} {r n:Nat} {f:Nat→List UInt8} (hd:RegAt d r n f) (hn:∀i,i<at_.length→atC at_ i<n) (hf:∀i,i<at_.length→f (atC at_ i).toNat=pageC v at_ i) :
 getDC d r (atC at_ 0) v.length=(v,at_,0):=by
 obtain⟨h1,h2,h3⟩:=putC_parts h;have h4:=needC_le v.length;have h0:0<at_.length:=by omega
 have:=getC_back h (rdC d r) (fun j hj=>by
  have hp:=pgC_lt (aptC_at h3 hj).1;rw[hd.oneC ⟨by omega,hn j hj⟩,hf j hj,(putC_one h j).1,(putC_one h j).2.1,(putC_one h j).2.2]) at_.length 0 rfl h0 4 (by omega)
 have ht:at_.take 1=[atC at_ 0]:=by rw[List.take_succ_eq_append_getElem h0];simp[atC,h0]
 unfold getDC getC;rw[if_neg h1];simpa[ht] using this
theorem gotC_lost {v:List UInt8} {at_:List Int} (h:putOkC v at_=true) {d:List Rg} {r n:Nat} {f:Nat→List UInt8} (hd:RegAt d r n f) (hn:∀i,i<at_.length→atC at_ i<n) (w:Nat) (hw:w<at_.length) (E:Int) (hE:E≠0) (hE2:E≠10) (hz:oneEC (f (atC at_ w).toNat)=E) (hf:∀i,i<w→f (atC at_ i).toNat=pageC v at_ i) :
 getDC d r (atC at_ 0) v.length=([],[],E):=by
 obtain⟨h1,h2,h3⟩:=putC_parts h;have h4:=needC_le v.length;have h0:0<at_.length:=by omega
 have hpw:=pgC_lt (aptC_at h3 hw).1;have:=getC_lost h (rdC d r) w E hE hE2 hw (by rw[hd.oneC ⟨by omega,hn w hw⟩];exact hz) (fun j hj=>by
  have hp:=pgC_lt (aptC_at h3 (show j<at_.length by omega)).1;rw[hd.oneC ⟨by omega,hn j (by omega)⟩,hf j hj,(putC_one h j).1,(putC_one h j).2.1,(putC_one h j).2.2]) at_.length 0 rfl (Nat.zero_le _) 4 (by omega)
 have ht:at_.take 1=[atC at_ 0]:=by rw[List.take_succ_eq_append_getElem h0];simp[atC,h0]
 unfold getDC getC;rw[if_neg h1];simpa[ht] using this
theorem pageC_len (v:List UInt8) (at_:List Int) (i:Nat):(pageC v at_ i).length=128:=by
 have:=pageC_fits v at_ i;simp only[fits,Bool.and_eq_true,decide_eq_true_eq] at this;exact pageOf_length 3 [cellC v at_ i] this.2
def sumI (l:List Int):Int:=l.foldl (fun a b=>a+b) 0
theorem foldl_add (l:List Int) (a:Int):l.foldl (fun a b=>a+b) a=a+l.foldl (fun a b=>a+b) 0:=by
 induction l generalizing a with
 | nil=>simp
 | cons x l ih=>simp only[List.foldl_cons];rw[ih,ih (0+x)];omega
theorem sumI_nil:sumI []=0:=rfl
theorem sumI_cons (x:Int) (l:List Int):sumI (x::l)=x+sumI l:=by
 simp only[sumI,List.foldl_cons];rw[foldl_add];omega
theorem sumI_append (l m:List Int):sumI (l++m)=sumI l+sumI m:=by
 induction l with
 | nil=>simp[sumI_nil]
 | cons x l ih=>simp only[List.cons_append,sumI_cons,ih];omega
theorem sumI_take_succ (l:List Int) (k:Nat) (h:k<l.length):sumI (l.take (k+1))=sumI (l.take k)+l[k]?.getD 0:=by
 rw[List.take_add_one,sumI_append];simp[h,sumI_cons,sumI_nil]
theorem sumI_split (l:List Int) (k:Nat):sumI l=sumI (l.take k)+sumI (l.drop k):=by
 rw[←sumI_append,List.take_append_drop]
def neighF (m k:Int):Int:=if k+1<m then k+1 else k-1
def Small (l:List Int):Prop:=l.length≤1000∧∀x∈l,0≤x∧x≤1000
theorem Small.take {l:List Int} (h:Small l) (k:Nat):Small (l.take k):=⟨by have:=List.length_take_le k l;simp;have:=h.1;omega,fun x hx=>h.2 x (List.mem_of_mem_take hx)⟩
theorem Small.drop {l:List Int} (h:Small l) (k:Nat):Small (l.drop k):=⟨by have:=h.1;simp;omega,fun x hx=>h.2 x (List.mem_of_mem_drop hx)⟩
theorem sumI_bd (l:List Int) (h:∀x∈l,0≤x∧x≤1000):0≤sumI l∧sumI l≤1000*l.length:=by
 exact q639ae9
theorem Small.bd {l:List Int} (h:Small l):0≤sumI l∧sumI l≤1000000:=by
 have h1:=sumI_bd l h.2;have:=h.1;omega
theorem Small.get {l:List Int} (h:Small l) (k:Nat):0≤l[k]?.getD 0∧l[k]?.getD 0≤1000:=by
 cases e:l[k]? with
 | none=>simp
 | some x=>simpa using h.2 x (List.mem_of_getElem? e)
def worse (l:List Int) (k:Nat):Int:=max (sumI (l.take k)) (sumI (l.drop k))
def better (p x:Int×Int):Int×Int:=if x.2<p.1 then (x.2,x.1) else p
def foldBest (l:List Int) (pre:List (Int×Int)):Int×Int:=pre.foldl better (sumI l+1,0)
theorem foldBest_snoc (l:List Int) (pre:List (Int×Int)) (x:Int×Int):foldBest l (pre++[x])=better (foldBest l pre) x:=by simp[foldBest]
def bestTo (l:List Int) (n:Nat):Int×Int:=foldBest l ((List.range n).map fun k:Nat=>((k:Int)+1,worse l (k+1)))
theorem bestTo_zero (l:List Int):bestTo l 0=(sumI l+1,0):=rfl
theorem bestTo_succ (l:List Int) (n:Nat):bestTo l (n+1)=better (bestTo l n) ((n:Int)+1,worse l (n+1)):=by
 simp[bestTo,List.range_succ,foldBest_snoc]
def atF (l:List Int):Int:=if sumI l≤122 then 0 else (bestTo l (l.length-1)).2
theorem worse_one_le {l:List Int} (h:Small l):worse l 1≤sumI l:=by
 have e:=sumI_split l 1;have h1:=(h.take 1).bd;have h2:=(h.drop 1).bd;unfold worse;omega
theorem bestTo_pos {l:List Int} (h:Small l) (n:Nat):∃m:Nat,1≤m∧m≤n+1∧bestTo l (n+1)=(worse l m,(m:Int)):=by
 induction n with
 | zero=>
  refine⟨1,by omega,by omega,?_⟩;have:=worse_one_le h;rw[bestTo_succ,bestTo_zero,better,if_pos (by simp;omega)];simp
 | succ n ih=>
  obtain⟨m,h1,h2,e⟩:=ih;rw[bestTo_succ (n:=n+1),e,better]
  by_cases hlt:worse l (n+1+1)<worse l m
  ·rw[if_pos (by simpa using hlt)];exact⟨n+1+1,by omega,by omega,by simp⟩
  ·rw[if_neg (by simpa using hlt)];exact⟨m,h1,by omega,rfl⟩
theorem worse_lo {l:List Int} (k:Nat):sumI l-worse l k≤sumI (l.take k)∧sumI l-worse l k≤sumI (l.drop k)∧sumI (l.take k)≤worse l k∧sumI (l.drop k)≤worse l k∧(worse l k=sumI (l.take k)∨worse l k=sumI l-sumI (l.take k)):=by
 have e:=sumI_split l k;unfold worse;omega
theorem bestTo_least {l:List Int} (h:Small l) (n:Nat):∃m:Nat,1≤m∧m≤n+1∧bestTo l (n+1)=(worse l m,(m:Int)) ∧
 ∀k,1≤k→k≤n+1→worse l m≤worse l k∧(worse l k=worse l m→m≤k):=by
 induction n with
 | zero=>
  obtain⟨m,h1,h2,e⟩:=bestTo_pos h 0;exact⟨m,h1,h2,e,fun k a b=>by
   obtain rfl:k=m:=by omega
   omega⟩
 | succ n ih=>
  obtain⟨m,h1,h2,e,hl⟩:=ih;rw[bestTo_succ (n:=n+1),e,better]
  by_cases hlt:worse l (n+1+1)<worse l m
  ·rw[if_pos (by simpa using hlt)]
   refine⟨n+1+1,by omega,by omega,by simp,fun k a b=>?_⟩
   by_cases e:k=n+1+1
   ·subst e;omega
   ·have:=hl k a (by omega);omega
  ·rw[if_neg (by simpa using hlt)]
   refine⟨m,h1,by omega,rfl,fun k a b=>?_⟩
   by_cases e:k=n+1+1
   ·subst e;omega
   ·exact hl k a (by omega)
theorem atF_cases {l:List Int} (h:Small l):(atF l=0∧(sumI l≤122∨l.length<2)) ∨
 (122<sumI l∧∃m:Nat,1≤m∧m<l.length∧atF l=(m:Int)∧∀k,1≤k→k<l.length→worse l m≤worse l k∧(worse l k=worse l m→m≤k)):=by
 by_cases hle:sumI l≤122
 ·exact .inl ⟨by simp[atF,hle],.inl hle⟩
 ·by_cases h2:l.length<2
  ·refine .inl ⟨?_,.inr h2⟩
   have e:l.length-1=0:=by omega
   simp[atF,hle,e,bestTo_zero]
  ·obtain⟨n,hn⟩:∃n,l.length=n+2:=⟨l.length-2,by omega⟩
   obtain⟨m,h1,h3,e,hl⟩:=bestTo_least h n;refine .inr ⟨by omega,m,h1,by omega,?_,fun k a b=>hl k a (by omega)⟩;have:l.length-1=n+1:=by omega
   simp[atF,hle,this,e]
theorem sumI_take_all (l:List Int):sumI (l.take l.length)=sumI l:=by rw[List.take_length]
theorem first_half (l:List Int) (_h:Small l) (hpos:0<sumI l):∃k,k<l.length∧2*sumI (l.take k)<sumI l∧sumI l≤2*sumI (l.take (k+1)):=by
 have key:∀n,n≤l.length→sumI l≤2*sumI (l.take n)→∃k,k<n∧2*sumI (l.take k)<sumI l∧sumI l≤2*sumI (l.take (k+1)):=by
  intro n
  induction n with
  | zero=>intro _ h0;simp[sumI_nil] at h0;omega
  | succ n ih=>
   intro hn h0
   by_cases hc:sumI l≤2*sumI (l.take n)
   ·obtain⟨k,a,b,c⟩:=ih (by omega) hc
    exact⟨k,by omega,b,c⟩
   ·exact⟨n,by omega,by omega,h0⟩
 exact key l.length (Nat.le_refl _) (by rw[sumI_take_all];omega)
structure Tv where
 data:List UInt8
 pages:List Int
inductive Tr where
 | leaf (page:Int) (l:List (List UInt8×Tv))
 | node (page:Int) (l:List (List UInt8×Tr))
def Tr.page:Tr→Int
 | .leaf p _=>p
 | .node p _=>p
def Tr.isLeaf:Tr→Bool
 | .leaf _ _=>true
 | .node _ _=>false
def keysOf {α:Type} (l:List (List UInt8×α)):List (List UInt8):=l.map (·.1)
def Tr.keys:Tr→List (List UInt8)
 | .leaf _ l=>keysOf l
 | .node _ l=>keysOf l
def Tr.zero:Tr:=.leaf 0 []
def vSz (v:Tv):Nat:=if v.data.length≤16 then v.data.length else 4
def sizesT:Tr→List Int
 | .leaf _ l=>l.map fun c=>((3+vSz c.2+c.1.length:Nat):Int)
 | .node _ l=>l.map fun c=>((4+c.1.length:Nat):Int)
def sumT (t:Tr):Int:=sumI (sizesT t)
def lowT (t:Tr):Bool:=decide (sumT t<30)
def keyAt {α:Type} (l:List (List UInt8×α)) (k:Nat):List UInt8:=(l[k]?.map (·.1)).getD []
def kidAt (l:List (List UInt8×Tr)) (k:Nat):Tr:=(l[k]?.map (·.2)).getD Tr.zero
def wayD (ks:List (List UInt8)) (key:List UInt8):Nat→Nat
 | 0=>0
 | n+1=>if key<ks[n+1]?.getD [] then wayD ks key n else n+1
def wayF (ks:List (List UInt8)) (key:List UInt8):Nat:=wayD ks key (ks.length-1)
def firstK {α:Type} (key:List UInt8):List (List UInt8×α)→List (List UInt8×α)
 | []=>[]
 | c::r=>(key,c.2)::r
def partT (at_:Nat):Tr→Tr×Tr×List UInt8
 | .leaf _ l=>(.leaf 0 (l.take at_),.leaf 0 (l.drop at_),keyAt l at_)
 | .node _ l=>(.node 0 (l.take at_),.node 0 (firstK [] (l.drop at_)),keyAt l at_)
def splitT (l:List (List UInt8×Tr)) (k:Nat):Option (List (List UInt8×Tr)):=
 if atF (sizesT (kidAt l k))=0 then none
 else some (l.take k++((keyAt l k,(partT (atF (sizesT (kidAt l k))).toNat (kidAt l k)).1)::((partT (atF (sizesT (kidAt l k))).toNat (kidAt l k)).2.2,(partT (atF (sizesT (kidAt l k))).toNat (kidAt l k)).2.1)::l.drop (k+1)))
def joinT (key:List UInt8):Tr→Tr→Tr
 | .leaf _ l,.leaf _ m=>.leaf 0 (l++m)
 | .node _ l,.node _ m=>.node 0 (l++firstK key m)
 | a,_=>a
def joinAt (n k:Nat):Nat:=if k+1<n then k else k-1
def joined (l:List (List UInt8×Tr)) (j:Nat):List (List UInt8×Tr):=
 l.take j++((keyAt l j,joinT (keyAt l (j+1)) (kidAt l j) (kidAt l (j+1)))::l.drop (j+2))
def mendT (p:Int) (l:List (List UInt8×Tr)) (k:Nat):Tr:=
 match splitT l k with
 | some m=>.node 0 m
 | none=>if lowT (kidAt l k)=false∨l.length<2 then .node p l
  else match splitT (joined l (joinAt l.length k)) (joinAt l.length k) with
   | some m=>.node 0 m
   | none=>.node 0 (joined l (joinAt l.length k))
def topT:Nat→Tr→Tr
 | 0,t=>t
 | n+1,.node p l=>if l.length=1 then topT n (kidAt l 0) else if atF (sizesT (.node p l))=0 then .node p l else mendT 0 [([],.node p l)] 0
 | _+1,.leaf p l=>if atF (sizesT (.leaf p l))=0 then .leaf p l else mendT 0 [([],.leaf p l)] 0
def putL (key:List UInt8) (v:Tv):List (List UInt8×Tv)→List (List UInt8×Tv)
 | []=>[(key,v)]
 | c::r=>if c.1<key then c::putL key v r else if c.1=key then (key,v)::r else (key,v)::c::r
def putT:Nat→Tr→List UInt8→Tv→Tr
 | 0,t,_,_=>t
 | _+1,.leaf _ l,key,v=>.leaf 0 (putL key v l)
 | n+1,.node _ l,key,v=>mendT 0 (l.set (wayF (keysOf l) key) (keyAt l (wayF (keysOf l) key),putT n (kidAt l (wayF (keysOf l) key)) key v)) (wayF (keysOf l) key)
def entsT:Nat→Tr→List (List UInt8×Tv)
 | 0,_=>[]
 | _+1,.leaf _ l=>l
 | n+1,.node _ l=>l.flatMap fun c=>entsT n c.2
theorem klt_irrefl (a:List UInt8):¬a<a:=List.lt_irrefl a
theorem klt_trans {a b c:List UInt8} (h:a<b) (k:b<c):a<c:=List.lt_trans h k
theorem kle_lt {a b c:List UInt8} (h:¬b<a) (k:b<c):a<c:=List.lt_of_le_of_lt (show a≤b from h) k
theorem klt_le {a b c:List UInt8} (h:a<b) (k:¬c<b):a<c:=by
 by_cases e:a<c
 ·exact e
 ·exact absurd (kle_lt (a:=c) (b:=a) e h) k
theorem ktri (a b:List UInt8):a<b∨a=b∨b<a:=by
 by_cases h:a<b
 ·exact .inl h
 ·by_cases k:b<a
  ·exact .inr (.inr k)
  ·exact .inr (.inl (List.le_antisymm (show a≤b from k) (show b≤a from h)))
theorem klt_asymm {a b:List UInt8} (h:a<b):¬b<a:=fun k=>klt_irrefl a (klt_trans h k)
theorem knil (a:List UInt8):¬a < []:=fun h=>by cases h
theorem knil_lt {a:List UInt8} (h:a≠[]):[]<a:=by
 cases a with
 | nil=>exact absurd rfl h
 | cons x r=>exact List.nil_lt_cons x r
open Go.RowKit
theorem TabR.move {α:Type} {sz:Nat} {R R':List Value→α→Prop} {w w':World} {a:Option Addr} {len cap:Nat} {l:List α} (h:TabR sz R w a len cap l) (hb:Below w.heap.size w w') (hR:∀cs y,y∈l→R cs y→R' cs y):TabR sz R' w' a len cap l:=by
 obtain⟨h1,h2,h3,hn,h4⟩:=TabR.below (Nat.le_refl _) hb h;refine⟨h1,h2,h3,hn,?_⟩
 rcases h4 with h4|⟨b,off,h5,h6,h7⟩
 ·exact .inl h4
 ·exact .inr ⟨b,off,h5,h6,fun i y hy=>by obtain⟨cs,c1,c2,c3⟩:=h7 i y hy;exact⟨cs,c1,hR _ _ (List.mem_of_getElem? hy) c2,c3⟩⟩
theorem TabR.lens {α:Type} {sz:Nat} {R:List Value→α→Prop} {w:World} {a:Option Addr} {len cap:Nat} {l:List α} (h:TabR sz R w a len cap l):l.length=len∧len≤cap∧cap≤9223372036854775807:=⟨h.1,h.2.1,by have:=h.2.2.1;unfold maxLen at this;omega⟩
theorem TabR.nil {α:Type} {sz:Nat} {R:List Value→α→Prop} (w:World):TabR sz R w none 0 0 ([]:List α):=⟨rfl,Nat.le_refl _,by unfold maxLen;omega,fun _=>rfl,.inl rfl⟩
def IsKey (cs:List Value) (y:List UInt8):Prop:=cs=[.string (strOf y)]
def KeysIn (w:World) (a:Option Addr) (n c:Nat) (l:List (List UInt8)):Prop:=TabR 1 IsKey w a n c l
def IsTv (w:World) (cs:List Value) (v:Tv):Prop:=∃a n c,cs=[.string (strOf v.data),.slice a n c]∧Row .i64 w a n c v.pages
theorem IsTv.below {w w':World} {cs:List Value} {v:Tv} (h:IsTv w cs v) (hb:Below w.heap.size w w'):IsTv w' cs v:=by
 obtain⟨a,n,c,e,hr⟩:=h;exact⟨a,n,c,e,hr.below (Nat.le_refl _) hb⟩
def ValsIn (w:World) (a:Option Addr) (n c:Nat) (l:List Tv):Prop:=TabR 2 (IsTv w) w a n c l
def NodeIn:Nat→World→List Value→Tr→Prop
 | 0,_,_,_=>False
 | _+1,w,cs,.leaf p l=>∃ka kn kc va vn vc ca cc,cs=[.int .i64 p,.bool true,.slice ka kn kc,.slice va vn vc,.slice ca 0 cc]∧KeysIn w ka kn kc (keysOf l)∧ValsIn w va vn vc (l.map (·.2))∧TabR 5 (fun _ (_:Unit)=>True) w ca 0 cc []
 | n+1,w,cs,.node p l=>∃ka kn kc va vc ca cn cc,cs=[.int .i64 p,.bool false,.slice ka kn kc,.slice va 0 vc,.slice ca cn cc]∧KeysIn w ka kn kc (keysOf l)∧TabR 2 (fun _ (_:Unit)=>True) w va 0 vc []∧TabR 5 (NodeIn n w) w ca cn cc (l.map (·.2))
theorem NodeIn.below:∀{n:Nat} {w w':World} {cs:List Value} {t:Tr},NodeIn n w cs t→Below w.heap.size w w'→NodeIn n w' cs t
 | 0,_,_,_,_,h,_=>h.elim
 | _+1,_,_,_,.leaf p l,h,hb=>by
  obtain⟨ka,kn,kc,va,vn,vc,ca,cc,e,h1,h2,h3⟩:=h;exact⟨ka,kn,kc,va,vn,vc,ca,cc,e,TabR.below (Nat.le_refl _) hb h1,TabR.move h2 hb (fun _ _ _ h=>h.below hb),TabR.below (Nat.le_refl _) hb h3⟩
 | n+1,_,_,_,.node p l,h,hb=>by
  obtain⟨ka,kn,kc,va,vc,ca,cn,cc,e,h1,h2,h3⟩:=h;exact⟨ka,kn,kc,va,vc,ca,cn,cc,e,TabR.below (Nat.le_refl _) hb h1,TabR.below (Nat.le_refl _) hb h2,TabR.move h3 hb (fun _ _ _ h=>NodeIn.below h hb)⟩
def IsLc (w:World) (cs:List Value) (y:List UInt8×Tv):Prop:=∃pa pn pc ka kc,cs=[.string (strOf y.1),.string (strOf y.2.data),.slice pa pn pc,.slice ka 0 kc]∧Row .i64 w pa pn pc y.2.pages∧TabR 3 (fun _ (_:Unit)=>True) w ka 0 kc []
def RIn:Nat→World→List Value→Tr→Prop
 | 0,_,_,_=>False
 | _+1,w,cs,.leaf p l=>∃a n c,cs=[.int .i64 p,.bool true,.slice a n c]∧TabR 4 (IsLc w) w a n c l
 | n+1,w,cs,.node p l=>∃a m c,cs=[.int .i64 p,.bool false,.slice a m c]∧TabR 4 (fun cs (y:List UInt8×Tr)=>∃pa pc ka kc,cs=[.string (strOf y.1),.string (strOf []),.slice pa 0 pc,.slice ka 1 kc]∧Row .i64 w pa 0 pc []∧TabR 3 (RIn n w) w ka 1 kc [y.2]) w a m c l
def IsNc (n:Nat) (w:World) (cs:List Value) (y:List UInt8×Tr):Prop:=∃pa pc ka kc,cs=[.string (strOf y.1),.string (strOf []),.slice pa 0 pc,.slice ka 1 kc]∧Row .i64 w pa 0 pc []∧TabR 3 (RIn n w) w ka 1 kc [y.2]
def Cl (sz:Nat):Type:={ cs:List Value // cs.length=sz∧∀u∈cs,u.oneCell'=true }
def Raw (sz:Nat) (w:World) (a:Option Addr) (n c:Nat) (L:List (Cl sz)):Prop:=TabR sz (fun cs y=>cs=y.1) w a n c L
def Tells {α:Type} {sz:Nat} (R:List Value→α→Prop) (L:List (Cl sz)) (l:List α):Prop:=L.length=l.length∧∀(i:Nat) (x:Cl sz) (y:α),L[i]? = some x→l[i]? = some y→R x.1 y
theorem TabR.raw {α:Type} {sz:Nat} {R:List Value→α→Prop} {w:World} {a:Option Addr} {n c:Nat} {l:List α} (h:TabR sz R w a n c l) (h1:∀cs y,R cs y→∀u∈cs,u.oneCell'=true):∃L:List (Cl sz),Raw sz w a n c L∧Tells R L l:=by
 obtain⟨e1,e2,e3,e4,e5⟩:=h
 rcases e5 with e5|⟨b,off,f1,f2,f3⟩
 ·subst e5
  have:l=[]:=List.eq_nil_of_length_eq_zero e1;subst this;exact⟨[],⟨rfl,e2,e3,e4,.inl rfl⟩,rfl,fun i x y hx=>by simp at hx⟩
 ·have each:∀i,i<l.length→∃x:Cl sz,∃y,l[i]? = some y∧R x.1 y∧∀j v,x.1[j]? = some v→w.cell? ⟨b,off+i*sz+j,none⟩=some v:=by
   intro i hi;have hy:l[i]? = some l[i]:=List.getElem?_eq_getElem hi;obtain⟨cs,c1,c2,c3⟩:=f3 i _ hy;exact⟨⟨cs,c1,h1 _ _ c2⟩,_,hy,c2,c3⟩
  by_cases h0:l.length=0
  ·have:l=[]:=List.eq_nil_of_length_eq_zero h0
   subst this;exact⟨[],⟨by simpa using e1,e2,e3,e4,.inl (by simpa using e1.symm)⟩,rfl,fun i x y hx=>by simp at hx⟩
  ·obtain⟨x0,_⟩:=each 0 (by omega)
   haveI:Inhabited (Cl sz):=⟨x0⟩
   obtain⟨q,hq⟩:=Go.Deep.choose_lt each;refine⟨(List.range l.length).map q,⟨by simpa using e1,e2,e3,e4,.inr ⟨b,off,f1,f2,fun i y hy=>?_⟩⟩,by simp,fun i x y hx hy=>?_⟩
   ·have hi:i<l.length:=by have:=(List.getElem?_eq_some_iff.1 hy).1;simpa using this
    have hy':y=q i:=by simp[hi] at hy;exact hy.symm
    subst hy';obtain⟨z,_,_,g3⟩:=hq i hi;exact⟨(q i).1,(q i).2.1,rfl,g3⟩
   ·have hi:i<l.length:=(List.getElem?_eq_some_iff.1 hy).1
    have hx':x=q i:=by simp[hi] at hx;exact hx.symm
    subst hx';obtain⟨z,g1,g2,_⟩:=hq i hi;rw[hy] at g1;cases g1;exact g2
theorem Raw.tab {α:Type} {sz:Nat} {R:List Value→α→Prop} {w:World} {a:Option Addr} {n c:Nat} {L:List (Cl sz)} {l:List α} (h:Raw sz w a n c L) (hR:Tells R L l):TabR sz R w a n c l:=by
 obtain⟨e1,e2,e3,e4,e5⟩:=h;refine⟨by rw[←hR.1];exact e1,e2,e3,e4,?_⟩
 rcases e5 with e5|⟨b,off,f1,f2,f3⟩
 ·exact .inl e5
 ·refine .inr ⟨b,off,f1,f2,fun i y hy=>?_⟩
  have hi:i<L.length:=by rw[hR.1];exact(List.getElem?_eq_some_iff.1 hy).1
  have hx:L[i]? = some L[i]:=List.getElem?_eq_getElem hi;obtain⟨cs,c1,c2,c3⟩:=f3 i _ hx;exact⟨cs,c1,by rw[c2];exact hR.2 i _ y hx hy,c3⟩
section
variable {α:Type} {sz:Nat} {R:List Value→α→Prop}
theorem Tells.mono {R':List Value→α→Prop} {L:List (Cl sz)} {l:List α} (h:Tells R L l) (hR:∀cs y,y∈l→R cs y→R' cs y):Tells R' L l:=⟨h.1,fun i x y hx hy=>hR _ _ (List.mem_of_getElem? hy) (h.2 i x y hx hy)⟩
theorem Tells.nil:Tells R ([]:List (Cl sz)) ([]:List α):=⟨rfl,fun i x y hx=>by simp at hx⟩
theorem Tells.append {L M:List (Cl sz)} {l m:List α} (h:Tells R L l) (g:Tells R M m):Tells R (L++M) (l++m):=by
 refine⟨by rw[List.length_append,List.length_append,h.1,g.1],fun i x y hx hy=>?_⟩
 by_cases hi:i<L.length
 ·rw[List.getElem?_append_left hi] at hx
  rw[List.getElem?_append_left (by rw[←h.1];exact hi)] at hy;exact h.2 i x y hx hy
 ·rw[List.getElem?_append_right (by omega)] at hx
  rw[List.getElem?_append_right (by rw[←h.1];omega),←h.1] at hy;exact g.2 _ x y hx hy
theorem Tells.one {x:Cl sz} {y:α} (h:R x.1 y):Tells R [x] [y]:=by
 refine⟨rfl,fun i x' y' hx hy=>?_⟩;cases i with
 | zero=>simp at hx hy;subst hx hy;exact h
 | succ i=>simp at hx
theorem Tells.cons {x:Cl sz} {y:α} {L:List (Cl sz)} {l:List α} (h:R x.1 y) (g:Tells R L l):Tells R (x::L) (y::l):=(Tells.one h).append g
end
def flatC {sz:Nat} (L:List (Cl sz)):List Value:=L.flatMap (·.1)
theorem flatC_append {sz:Nat} (L M:List (Cl sz)):flatC (L++M)=flatC L++flatC M:=by simp[flatC]
theorem Raw.of_own {sz:Nat} {w:World} {base:Nat} {e:TypeId} {v:Value} {n:Nat} {L:List (Cl sz)} (h:w.ownsRow base e sz v n (flatC L)) (hn:L.length=n):∃a cap,v=.slice a n cap∧Raw sz w a n cap L:=by
 subst hn;exact TabR.of_own (fun y:Cl sz=>y.1) (fun y=>y.2.1) (fun y=>rfl) h
section
variable {P:Program}
theorem run_append_raw {w:World} (base:Nat) (t e:TypeId) (i:TypeInfo) (z:Value) (sz bytes:Nat) (ht:P.underlying t=some (.slice e)) (hi:P.info? e=some i) (hz:i.zero=some z)
 (hsize:i.size=sz) (hby:i.bytes=bytes) (hzs:z.cells.size=sz) (hsz:0<sz) {v:Value} {n:Nat} {L:List (Cl sz)} (hown:w.ownsRow base e sz v n (flatC L))
 {a:Option Addr} {m c:Nat} {M:List (Cl sz)} (hrow:Raw sz w a m c M) (h63:n+m≤maxLen) (hbytes:(n+m)*bytes≤140737488355328) (hbase:base≤w.heap.size) :
 ∃v' w',(Builtin.append_ #[t,t] t #[v,.slice a m c]).run P w=.ok v' w'∧AppOut w base e sz v (n+m) (flatC (L++M)) w.heap.size v' w':=by
 rw[flatC_append];exact run_append_tab base t e i z sz bytes ht hi hz hsize hby hzs hsz hown (fun cs (y:Cl sz)=>cs=y.1) (fun y=>y.1) (fun cs y h=>h) (fun y=>y.2.1) (fun y=>y.2.2) hrow h63 hbytes hbase
end
theorem Raw.lens {sz:Nat} {w:World} {a:Option Addr} {n c:Nat} {L:List (Cl sz)} (h:Raw sz w a n c L):L.length=n∧n≤c∧c≤9223372036854775807:=TabR.lens h
def keyOk (k:List UInt8):Prop:=k≠[]∧k.length≤16
def valOk (v:Tv):Prop:=v.data.length≤400∧(v.pages≠[]→16<v.data.length)
def ltH (hi k:List UInt8):Prop:=hi=[]∨k<hi
theorem ltH.of {hi k j:List UInt8} (h:ltH hi k) (hj:j<k):ltH hi j:=h.imp id (klt_trans hj)
def KidsP (P:List UInt8→List UInt8→Tr→Prop):List UInt8→List UInt8→List (List UInt8×Tr)→Prop
 | _,_,[]=>False
 | lo,hi,[c]=>P lo hi c.2
 | lo,hi,c::d::r=>P lo d.1 c.2∧keyOk d.1∧lo<d.1∧ltH hi d.1∧KidsP P d.1 hi (d::r)
def LeafOk (lo hi:List UInt8) (l:List (List UInt8×Tv)):Prop:=
 (keysOf l).Pairwise (fun a b=>a<b)∧∀c∈l,keyOk c.1∧¬c.1<lo∧ltH hi c.1∧valOk c.2
def Shape:Nat→List UInt8→List UInt8→Tr→Prop
 | 0,_,_,_=>False
 | n+1,lo,hi,.leaf _ l=>n=0∧LeafOk lo hi l
 | n+1,lo,hi,.node _ l=>KidsP (fun lo hi t=>Shape n lo hi t∧30≤sumT t∧sumT t≤122) lo hi l∧keyAt l 0=[]
def Good (n:Nat) (lo hi:List UInt8) (t:Tr):Prop:=Shape n lo hi t∧30≤sumT t∧sumT t≤122
section
variable {P:List UInt8→List UInt8→Tr→Prop}
theorem kids_first {lo hi:List UInt8} {k k':List UInt8} {t:Tr} {r:List (List UInt8×Tr)} (h:KidsP P lo hi ((k,t)::r)):KidsP P lo hi ((k',t)::r):=by
 cases r<;>exact h
theorem kids_split {hi:List UInt8} {d:List UInt8×Tr} {b:List (List UInt8×Tr)}:∀{a:List (List UInt8×Tr)} {c:List UInt8×Tr} {lo:List UInt8},KidsP P lo hi (c::a++d::b) →
 KidsP P lo d.1 (c::a)∧keyOk d.1∧lo<d.1∧ltH hi d.1∧KidsP P d.1 hi (d::b)
 | [],c,lo,h=>h
 | e::a,c,lo,h=>by
  obtain⟨h1,h2,h3,h4,h5⟩:=h;obtain⟨g1,g2,g3,g4,g5⟩:=kids_split (a:=a) (c:=e) (lo:=e.1) h5;exact⟨⟨h1,h2,h3,.inr g3,g1⟩,g2,klt_trans h3 g3,g4,g5⟩
theorem kids_glue {hi:List UInt8} {d:List UInt8×Tr} {b:List (List UInt8×Tr)}:∀{a:List (List UInt8×Tr)} {c:List UInt8×Tr} {lo:List UInt8},KidsP P lo d.1 (c::a)→keyOk d.1→lo<d.1→ltH hi d.1→KidsP P d.1 hi (d::b) →
 KidsP P lo hi (c::a++d::b)
 | [],c,lo,h1,h2,h3,h4,h5=>⟨h1,h2,h3,h4,h5⟩
 | e::a,c,lo,h1,h2,h3,h4,h5=>by
  obtain⟨g1,g2,g3,g4,g5⟩:=h1;have g6:e.1<d.1:=g4.resolve_left h2.1;exact⟨g1,g2,g3,h4.of g6,kids_glue g5 h2 g6 h4 h5⟩
theorem kids_ne {lo hi:List UInt8} {l:List (List UInt8×Tr)} (h:KidsP P lo hi l):l≠[]:=by
 intro e;subst e;exact h
def Ctx (P:List UInt8→List UInt8→Tr→Prop) (lo hi:List UInt8) (a b:List (List UInt8×Tr)) (k lo' hi':List UInt8):Prop:=
 ((a=[]∧lo'=lo)∨(a≠[]∧KidsP P lo k a∧keyOk k∧lo<k∧lo'=k)) ∧
 ((b=[]∧hi'=hi)∨∃d r,b=d::r∧hi'=d.1∧keyOk d.1∧ltH hi d.1∧KidsP P d.1 hi b) ∧
 (a≠[]∨b≠[]→ltH hi' lo')
theorem kids_focus {lo hi:List UInt8} {a b:List (List UInt8×Tr)} {c:List UInt8×Tr} (h:KidsP P lo hi (a++c::b)):∃lo' hi',Ctx P lo hi a b c.1 lo' hi'∧P lo' hi' c.2:=by
 cases a with
 | nil=>
  cases b with
  | nil=>exact⟨lo,hi,⟨.inl ⟨rfl,rfl⟩,.inl ⟨rfl,rfl⟩,fun h=>by rcases h with h|h<;>exact absurd rfl h⟩,h⟩
  | cons d r=>
   obtain⟨h1,h2,h3,h4,h5⟩:=h;exact⟨lo,d.1,⟨.inl ⟨rfl,rfl⟩,.inr ⟨d,r,rfl,rfl,h2,h4,h5⟩,fun _=>.inr h3⟩,h1⟩
 | cons e a=>
  obtain⟨g1,g2,g3,g4,g5⟩:=kids_split h;cases b with
  | nil=>exact⟨c.1,hi,⟨.inr ⟨by simp,g1,g2,g3,rfl⟩,.inl ⟨rfl,rfl⟩,fun _=>g4⟩,g5⟩
  | cons d r=>
   obtain⟨h1,h2,h3,h4,h5⟩:=g5;exact⟨c.1,d.1,⟨.inr ⟨by simp,g1,g2,g3,rfl⟩,.inr ⟨d,r,rfl,rfl,h2,h4,h5⟩,fun _=>.inr h3⟩,h1⟩
theorem kids_plug {lo hi:List UInt8} {a b:List (List UInt8×Tr)} {k lo' hi':List UInt8} (hc:Ctx P lo hi a b k lo' hi') {t:Tr} {m:List (List UInt8×Tr)} (hm:KidsP P lo' hi' ((k,t)::m)):KidsP P lo hi (a++((k,t)::m++b)):=by
 obtain⟨h1,h2,h3⟩:=hc;have hmb:KidsP P lo' hi ((k,t)::m++b):=by
  rcases h2 with⟨rfl,rfl⟩|⟨d,r,rfl,rfl,g1,g2,g3⟩
  ·rw[List.append_nil];exact hm
  ·exact kids_glue hm g1 ((h3 (.inr (by simp))).resolve_left g1.1) g2 g3
 rcases h1 with⟨rfl,rfl⟩|⟨ha,g1,g2,g3,rfl⟩
 ·exact hmb
 ·cases a with
  | nil=>exact absurd rfl ha
  | cons e a=>
   refine kids_glue (d:=(lo',t)) (b:=m++b) g1 g2 g3 ?_ hmb;have h5:=h3 (.inl ha)
   rcases h2 with⟨rfl,rfl⟩|⟨d,r,rfl,rfl,e1,e2,e3⟩
   ·exact h5
   ·exact e2.of (h5.resolve_left e1.1)
end
theorem vSz_le (v:Tv):vSz v≤16:=by unfold vSz;split<;>omega
theorem sum_leaf (p:Int) (l:List (List UInt8×Tv)):sumT (.leaf p l)=sumI (l.map fun c=>((3+vSz c.2+c.1.length:Nat):Int)):=rfl
theorem sum_node (p:Int) (l:List (List UInt8×Tr)):sumT (.node p l)=sumI (l.map fun c=>((4+c.1.length:Nat):Int)):=rfl
theorem sum_node_append (p q r:Int) (a b:List (List UInt8×Tr)):sumT (.node p (a++b))=sumT (.node q a)+sumT (.node r b):=by
 simp only[sum_node,List.map_append,sumI_append]
theorem sum_node_cons (p q:Int) (c:List UInt8×Tr) (b:List (List UInt8×Tr)):sumT (.node p (c::b))=((4+c.1.length:Nat):Int)+sumT (.node q b):=by
 simp only[sum_node,List.map_cons,sumI_cons]
theorem sum_node_nil (p:Int):sumT (.node p [])=0:=rfl
theorem sum_leaf_append (p q r:Int) (a b:List (List UInt8×Tv)):sumT (.leaf p (a++b))=sumT (.leaf q a)+sumT (.leaf r b):=by
 simp only[sum_leaf,List.map_append,sumI_append]
theorem sum_leaf_cons (p q:Int) (c:List UInt8×Tv) (b:List (List UInt8×Tv)):sumT (.leaf p (c::b))=((3+vSz c.2+c.1.length:Nat):Int)+sumT (.leaf q b):=by
 simp only[sum_leaf,List.map_cons,sumI_cons]
theorem sumI_nonneg {l:List Int} (h:∀x∈l,0≤x):0≤sumI l:=by
 induction l with
 | nil=>simp[sumI_nil]
 | cons x l ih=>
  rw[sumI_cons];have:=h x (by simp);have:=ih (fun y hy=>h y (by simp[hy]));omega
theorem sizes_nonneg (t:Tr):∀x∈sizesT t,0≤x:=by
 cases t<;>(intro x hx;obtain⟨c,_,rfl⟩:=List.mem_map.1 hx;omega)
theorem sumT_nonneg (t:Tr):0≤sumT t:=sumI_nonneg (sizes_nonneg t)
theorem cut_bal {l:List Int} (h:Small l) {c:Int} (hc:∀x∈l,x≤c) (hc1:0≤c∧c≤100) (h1:122<sumI l) {m:Nat} (hl:∀k,1≤k→k<l.length→worse l m≤worse l k) :
 2*worse l m≤sumI l+c:=by
 obtain⟨k,hk,ha,hb⟩:=first_half l h (by omega);have hs:=sumI_take_succ l k hk;have hx:l[k]?.getD 0≤c:=by simp[hk];exact hc _ (List.getElem_mem hk)
 have w0:=(h.take k).bd;have hlow:=worse_lo (l:=l) m
 by_cases hd:2*sumI (l.take (k+1))≤sumI l+c
 ·have hk1:k+1<l.length:=by
   by_cases e:k+1=l.length
   ·rw[e,sumI_take_all] at hd;omega
   ·omega
  have:=hl (k+1) (by omega) hk1;have:=worse_lo (l:=l) (k+1);omega
 ·have hk0:1≤k:=by
   by_cases e:k=0
   ·subst e;simp[sumI_nil] at *;omega
   ·omega
  have:=hl k hk0 hk;have:=worse_lo (l:=l) k;omega
theorem cut_parts {l:List Int} (hlen:l.length≤1000) (h0:∀x∈l,0≤x∧x≤36) (hsum:sumI l≤200):(atF l=0∧sumI l≤122) ∨
 ∃m:Nat,1≤m∧m<l.length∧atF l=(m:Int)∧122<sumI l∧sumI (l.take m)≤122∧sumI (l.drop m)≤122∧∀c:Int,0≤c→(∀x∈l,x≤c)→sumI l-c≤2*sumI (l.take m)∧sumI l-c≤2*sumI (l.drop m):=by
 have hS:Small l:=⟨hlen,fun x hx=>by have:=h0 x hx;omega⟩
 rcases atF_cases hS with⟨e,hc⟩|⟨h1,m,g1,g2,g3,g4⟩
 ·left
  refine⟨e,?_⟩
  rcases hc with hc|hc
  ·exact hc
  ·match l,hc,h0 with
   | [],_,_=>simp[sumI_nil]
   | [x],_,h0=>rw[sumI_cons,sumI_nil];have:=h0 x (by simp);omega
   | _::_::_,hc,_=>simp at hc;omega
 ·right
  have hb:=cut_bal hS (c:=36) (fun x hx=>(h0 x hx).2) (by omega) h1 (m:=m) (fun k a b=>(g4 k a b).1);have hw:=worse_lo (l:=l) m;refine⟨m,g1,g2,g3,h1,by omega,by omega,fun c hc0 hc=>?_⟩
  by_cases hc9:c≤100
  ·have:=cut_bal hS (c:=c) hc ⟨hc0,hc9⟩ h1 (m:=m) (fun k a b=>(g4 k a b).1)
   omega
  ·have h5:=sumI_nonneg (l:=l.take m) (fun x hx=>(h0 x (List.mem_of_mem_take hx)).1)
   have h6:=sumI_nonneg (l:=l.drop m) (fun x hx=>(h0 x (List.mem_of_mem_drop hx)).1);omega
end Go.Proofs.YtpghlmcoajaiiaaGreatDoor
