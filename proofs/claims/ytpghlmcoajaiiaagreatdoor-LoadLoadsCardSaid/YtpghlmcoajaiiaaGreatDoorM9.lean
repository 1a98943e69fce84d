/- Texts that other texts of this claim lean on, one behind the other. -/
import Derived.Test.YtpghlmcoajaiiaaGreatDoorM2
import Derived.Test.YtpghlmcoajaiiaaGreatDoorM3
import Derived.Test.YtpghlmcoajaiiaaGreatDoorM4
import Derived.Test.YtpghlmcoajaiiaaGreatDoorM8
import Derived.Test.YtpghlmcoajaiiaaGreatDoorM1
import Derived.WalkLawsBesides
import Derived.WalkSmall
import Derived.Test.YtpghlmcoajaiiaaGreatDoorM5
import Derived.Test.YtpghlmcoajaiiaaGreatDoorM6
import Derived.Deep.LoopGhost
import Derived.Laws.EntriesVeiled
import Derived.Laws.StructEq
import Derived.Deep.RegionLaw
import Derived.Deep.RegionHeld3
import Derived.Outline
import Derived.Deep.DeepCutAuto
import Derived.Deep.RegionWith
set_option maxHeartbeats 20000000
set_option maxRecDepth 100000
namespace Go.Proofs.YtpghlmcoajaiiaaGreatDoor
open Go.RowKit
def RowQ {α:Type} (sz:Nat) (Q:List Value→α→Prop) (E:TypeId) (B:Nat) (w:World) (v:Value) (l:List α):Prop:=∃L:List (Cl sz),w.ownsRow B E sz v l.length (flatC L)∧Tells Q L l
def Turn (w:World) (v v':Value):Prop:=v'.ownBlock=v.ownBlock∨∀g,v'.ownBlock=some g→w.heap.size≤g
theorem Turn.ne {w:World} {v v':Value} (h:Turn w v v') {b:Nat} (hb:v.ownBlock≠some b) (hlt:b<w.heap.size):v'.ownBlock≠some b:=fun e=>by
 rcases h with h|h
 ·rw[h] at e;exact hb e
 ·have:=h b e;omega
section
variable {α:Type} {sz:Nat} {Q:List Value→α→Prop} {E:TypeId} {B:Nat} {w:World} {v:Value} {l:List α}
theorem RowQ.nil (w:World):RowQ sz Q E B w (.slice none 0 0) []:=⟨[],own_nil w E sz B,Tells.nil⟩
theorem RowQ.lt (h:RowQ sz Q E B w v l) {g:Nat} (hg:v.ownBlock=some g):B≤g∧g<w.heap.size:=by
 obtain⟨L,h1,_⟩:=h;exact World.ownsRow.lt h1 g hg
theorem RowQ.keep {Q':List Value→α→Prop} {w':World} (h:RowQ sz Q E B w v l) (ha:AgreeF (fun b=>v.ownBlock=some b) w w') (hQ:∀cs y,Q cs y→Q' cs y):RowQ sz Q' E B w' v l:=by
 obtain⟨L,h1,h2⟩:=h;exact⟨L,own_agree h1 ha (fun g hg=>hg),h2.mono (fun _ _ _ h=>hQ _ _ h)⟩
theorem RowQ.sl (h:RowQ sz Q E B w v l):∃a c,v=.slice a l.length c∧l.length≤c∧c≤9223372036854775807∧TabR sz Q w a l.length c l∧Fa (fun b=>B≤b) a l.length:=by
 exact q6907ba
theorem RowQ.push {P:Program} {t:TypeId} {bytes:Nat} (ht:P.underlying t=some (.slice E)) (hi:RowInfo P E sz bytes) (hsz:0<sz) (hby:bytes≤1000) (h:RowQ sz Q E B w v l) (hB:B≤w.heap.size) (hl:l.length≤100000) {cs:List Value} (hlen:cs.length=sz) (hone:∀u∈cs,u.oneCell'=true) :
 ∃v' w',(Builtin.append_ #[t,t] t #[v,.slice (some ⟨w.heap.size,0,none⟩) 1 1]).run P (w.alloc (.cells cs.toArray E))=.ok v' w'∧w.grownBy w' v.ownBlock∧Turn w v v' ∧
  ∀(Q':List Value→α→Prop) (y:α),(∀cs y,Q cs y→Q' cs y)→Q' cs y→RowQ sz Q' E B w' v' (l++[y]):=by
 obtain⟨L,h1,h2⟩:=h;obtain⟨i,z,i1,i2,i3,i4,i5⟩:=hi;have hbb:(l.length+1)*bytes≤140737488355328:=Nat.le_trans (Nat.mul_le_mul (show l.length+1≤100001 by omega) hby) (by decide);obtain⟨v',w',hr,ho,hg,hv⟩:=run_append_new (P:=P) B t E i z sz bytes ht i1 i2 i3 i4 i5 hsz h1 cs.toArray (by simpa using hlen) (by simpa using hone) (by unfold maxLen;omega) hbb hB;refine⟨v',w',hr,hg,?_,fun Q' y hQ hy=>⟨L++[⟨cs,hlen,hone⟩],?_,(h2.mono (fun _ _ _ h=>hQ _ _ h)).append (Tells.one hy)⟩⟩
 ·rcases hv with hv|hv
  ·exact .inl hv
  ·exact .inr fun g e=>by rw[hv] at e;have:=Option.some.inj e;omega
 ·have e:flatC (L++[⟨cs,hlen,hone⟩])=flatC L++cs:=by rw[flatC_append];exact congrArg (flatC L++·) (List.append_nil cs)
  rw[e,List.length_append];exact ho
end
def G3 (F:Nat→Prop) (B:Nat) (v1 v2 v3:Value) (b:Nat):Prop:=(F b∨B≤b)∧v1.ownBlock≠some b∧v2.ownBlock≠some b∧v3.ownBlock≠some b
theorem TvOn.lt {F:Nat→Prop} {w:World} {cs:List Value} {v:Tv} (h:TvOn F w cs v):TvOn (fun b=>F b∧b<w.heap.size) w cs v:=by
 obtain⟨a,n,c,e,h,f⟩:=h;exact⟨a,n,c,e,h,f.and h.block⟩
theorem tvKeep {G G':Nat→Prop} {w w':World} {cs:List Value} {y:Tv} (h:TvOn G w cs y) (ha:AgreeF G w w') (hG:∀b,G b→b<w.heap.size→G' b):TvOn G' w' cs y:=
 (h.lt.agree ⟨ha.1,fun b hb hlt=>ha.2 b hb.1 hlt⟩).mono (fun b hb=>hG b hb.1 hb.2)
theorem nodeKeep {G G':Nat→Prop} {n:Nat} {w w':World} {cs:List Value} {y:Tr} (h:NodeOn G n w cs y) (ha:AgreeF G w w') (hG:∀b,G b→b<w.heap.size→G' b):NodeOn G' n w' cs y:=
 (h.lt.agree ⟨ha.1,fun b hb hlt=>ha.2 b hb.1 hlt⟩).mono (fun b hb=>hG b hb.1 hb.2)
structure NodeRows (T1 T2 T3:TypeId) (F:Nat→Prop) (n B:Nat) (w:World) (v1 v2 v3:Value) (K:List (List UInt8)) (V:List Tv) (C:List Tr):Prop where
 k:RowQ 1 IsKey T1 B w v1 K
 v:RowQ 2 (TvOn (G3 F B v1 v2 v3) w) T2 B w v2 V
 c:RowQ 5 (NodeOn (G3 F B v1 v2 v3) n w) T3 B w v3 C
 d12:∀g,v1.ownBlock=some g→v2.ownBlock≠some g
 d13:∀g,v1.ownBlock=some g→v3.ownBlock≠some g
 d23:∀g,v2.ownBlock=some g→v3.ownBlock≠some g
section
variable {T1 T2 T3:TypeId} {F:Nat→Prop} {n B:Nat} {w:World} {v1 v2 v3:Value} {K:List (List UInt8)} {V:List Tv} {C:List Tr}
theorem NodeRows.nil (T1 T2 T3:TypeId) (F:Nat→Prop) (n B:Nat) (w:World):NodeRows T1 T2 T3 F n B w (.slice none 0 0) (.slice none 0 0) (.slice none 0 0) [] [] []:=
 ⟨RowQ.nil w,RowQ.nil w,RowQ.nil w,fun g h=>(by cases h),fun g h=>(by cases h),fun g h=>(by cases h)⟩
theorem NodeRows.agree {w':World} (h:NodeRows T1 T2 T3 F n B w v1 v2 v3 K V C) (ha:AgreeF (fun b=>F b∨B≤b) w w'):NodeRows T1 T2 T3 F n B w' v1 v2 v3 K V C where
 k:=h.k.keep (ha.sub fun _ hb=>.inr (h.k.lt hb).1) (fun _ _ h=>h)
 v:=h.v.keep (ha.sub fun _ hb=>.inr (h.v.lt hb).1) (fun _ _ h=>h.agree (ha.sub fun _ hb=>hb.1))
 c:=h.c.keep (ha.sub fun _ hb=>.inr (h.c.lt hb).1) (fun _ _ h=>h.agree (ha.sub fun _ hb=>hb.1))
 d12:=h.d12
 d13:=h.d13
 d23:=h.d23
theorem NodeRows.below {w':World} (h:NodeRows T1 T2 T3 F n B w v1 v2 v3 K V C) (hb:Below w.heap.size w w'):NodeRows T1 T2 T3 F n B w' v1 v2 v3 K V C:=h.agree (.of_below hb)
theorem NodeRows.set {p:Addr} {u:Value} (h:NodeRows T1 T2 T3 F n B w v1 v2 v3 K V C) (hp:p.block<B) (hF:¬F p.block):NodeRows T1 T2 T3 F n B (w.setCell p u) v1 v2 v3 K V C:=
 h.agree (AgreeF.set (AgreeF.refl w) (.inl fun hf=>by rcases hf with hf|hf;exact hF hf;omega))
theorem NodeRows.pushK {P:Program} {t:TypeId} {bytes:Nat} (ht:P.underlying t=some (.slice T1)) (hi:RowInfo P T1 1 bytes) (hby:bytes≤1000) (h:NodeRows T1 T2 T3 F n B w v1 v2 v3 K V C) (hB:B≤w.heap.size) (hl:K.length≤100000) (key:List UInt8) :
 ∃v' w',(Builtin.append_ #[t,t] t #[v1,.slice (some ⟨w.heap.size,0,none⟩) 1 1]).run P (w.alloc (.cells #[.string (strOf key)] T1))=.ok v' w'∧w.grownBy w' v1.ownBlock∧Turn w v1 v'∧NodeRows T1 T2 T3 F n B w' v' v2 v3 (K++[key]) V C:=by
 obtain⟨v',w',hr,hg,ht',hq⟩:=h.k.push (P:=P) (t:=t) ht hi (by decide) hby hB hl (cs:=[.string (strOf key)]) rfl (by intro u hu;simp at hu;subst hu;rfl);have hag:AgreeF (fun b=>v1.ownBlock≠some b) w w':=⟨hg.size,fun b hb hlt=>hg.block b hlt (fun e=>hb e.symm)⟩
 have hG:∀b,G3 F B v1 v2 v3 b→b<w.heap.size→G3 F B v' v2 v3 b:=fun b hb hlt=>⟨hb.1,ht'.ne hb.2.1 hlt,hb.2.2⟩
 refine⟨v',w',hr,hg,ht',⟨hq IsKey key (fun _ _ h=>h) rfl,h.v.keep (hag.sub fun b hb e=>h.d12 b e hb) (fun _ _ h=>tvKeep h (hag.sub fun b hb=>hb.2.1) hG),h.c.keep (hag.sub fun b hb e=>h.d13 b e hb) (fun _ _ h=>nodeKeep h (hag.sub fun b hb=>hb.2.1) hG),fun g e e2=>?_,fun g e e2=>?_,h.d23⟩⟩
 ·exact ht'.ne (fun e3=>h.d12 g e3 e2) (h.v.lt e2).2 e
 ·exact ht'.ne (fun e3=>h.d13 g e3 e2) (h.c.lt e2).2 e
theorem NodeRows.pushV {P:Program} {t:TypeId} {bytes:Nat} (ht:P.underlying t=some (.slice T2)) (hi:RowInfo P T2 2 bytes) (hby:bytes≤1000) (h:NodeRows T1 T2 T3 F n B w v1 v2 v3 K V C) (hB:B≤w.heap.size) (hl:V.length≤100000) {cs:List Value} {tv:Tv} (hy:TvOn (G3 F B v1 v2 v3) w cs tv) :
 ∃v' w',(Builtin.append_ #[t,t] t #[v2,.slice (some ⟨w.heap.size,0,none⟩) 1 1]).run P (w.alloc (.cells cs.toArray T2))=.ok v' w'∧w.grownBy w' v2.ownBlock∧Turn w v2 v'∧NodeRows T1 T2 T3 F n B w' v1 v' v3 K (V++[tv]) C:=by
 obtain⟨v',w',hr,hg,ht',hq⟩:=h.v.push (P:=P) (t:=t) ht hi (by decide) hby hB hl (cs:=cs) (by obtain⟨_,_,_,rfl,_⟩:=hy;rfl) (hy.toIn.one);have hag:AgreeF (fun b=>v2.ownBlock≠some b) w w':=⟨hg.size,fun b hb hlt=>hg.block b hlt (fun e=>hb e.symm)⟩
 have hG:∀b,G3 F B v1 v2 v3 b→b<w.heap.size→G3 F B v1 v' v3 b:=fun b hb hlt=>⟨hb.1,hb.2.1,ht'.ne hb.2.2.1 hlt,hb.2.2.2⟩
 refine⟨v',w',hr,hg,ht',⟨h.k.keep (hag.sub fun b hb e=>h.d12 b hb e) (fun _ _ h=>h),hq _ tv (fun _ _ h=>tvKeep h (hag.sub fun b hb=>hb.2.2.1) hG) (tvKeep hy (hag.sub fun b hb=>hb.2.2.1) hG),h.c.keep (hag.sub fun b hb e=>h.d23 b e hb) (fun _ _ h=>nodeKeep h (hag.sub fun b hb=>hb.2.2.1) hG),fun g e e2=>?_,h.d13,fun g e e2=>?_⟩⟩
 ·exact ht'.ne (h.d12 g e) (h.k.lt e).2 e2
 ·exact ht'.ne (fun e3=>h.d23 g e3 e2) (h.c.lt e2).2 e
theorem NodeRows.pushC {P:Program} {t:TypeId} {bytes:Nat} (ht:P.underlying t=some (.slice T3)) (hi:RowInfo P T3 5 bytes) (hby:bytes≤1000) (h:NodeRows T1 T2 T3 F n B w v1 v2 v3 K V C) (hB:B≤w.heap.size) (hl:C.length≤100000) {cs:List Value} {kid:Tr} (hy:NodeOn (G3 F B v1 v2 v3) n w cs kid) :
 ∃v' w',(Builtin.append_ #[t,t] t #[v3,.slice (some ⟨w.heap.size,0,none⟩) 1 1]).run P (w.alloc (.cells cs.toArray T3))=.ok v' w'∧w.grownBy w' v3.ownBlock∧Turn w v3 v'∧NodeRows T1 T2 T3 F n B w' v1 v2 v' K V (C++[kid]):=by
 obtain⟨v',w',hr,hg,ht',hq⟩:=h.c.push (P:=P) (t:=t) ht hi (by decide) hby hB hl (cs:=cs) (by obtain⟨_,_,_,_,_,_,_,_,_,_,rfl,_⟩:=NodeOn.open_pos hy;rfl) (hy.one);have hag:AgreeF (fun b=>v3.ownBlock≠some b) w w':=⟨hg.size,fun b hb hlt=>hg.block b hlt (fun e=>hb e.symm)⟩
 have hG:∀b,G3 F B v1 v2 v3 b→b<w.heap.size→G3 F B v1 v2 v' b:=fun b hb hlt=>⟨hb.1,hb.2.1,hb.2.2.1,ht'.ne hb.2.2.2 hlt⟩
 refine⟨v',w',hr,hg,ht',⟨h.k.keep (hag.sub fun b hb e=>h.d13 b hb e) (fun _ _ h=>h),h.v.keep (hag.sub fun b hb e=>h.d23 b hb e) (fun _ _ h=>tvKeep h (hag.sub fun b hb=>hb.2.2.2) hG),hq _ kid (fun _ _ h=>nodeKeep h (hag.sub fun b hb=>hb.2.2.2) hG) (nodeKeep hy (hag.sub fun b hb=>hb.2.2.2) hG),h.d12,fun g e e2=>?_,fun g e e2=>?_⟩⟩
 ·exact ht'.ne (h.d13 g e) (h.k.lt e).2 e2
 ·exact ht'.ne (h.d23 g e) (h.v.lt e).2 e2
theorem NodeRows.sl (h:NodeRows T1 T2 T3 F n B w v1 v2 v3 K V C):∃a1 c1 a2 c2 a3 c3,v1=.slice a1 K.length c1∧v2=.slice a2 V.length c2∧v3=.slice a3 C.length c3:=by
 obtain⟨a1,c1,rfl,_⟩:=h.k.sl;obtain⟨a2,c2,rfl,_⟩:=h.v.sl;obtain⟨a3,c3,rfl,_⟩:=h.c.sl;exact⟨a1,c1,a2,c2,a3,c3,rfl,rfl,rfl⟩
theorem NodeRows.leaf {G:Nat→Prop} {p:Int} {l:List (List UInt8×Tv)} (h:NodeRows T1 T2 T3 F n B w v1 v2 v3 (keysOf l) (l.map (·.2)) []) (hG:∀b,F b∨B≤b→G b) (m:Nat):NodeOn G (m+1) w [.int .i64 p,.bool true,v1,v2,v3] (.leaf p l):=by
 obtain⟨a1,c1,rfl,_,_,h1,f1⟩:=h.k.sl;obtain⟨a2,c2,rfl,_,_,h2,f2⟩:=h.v.sl;obtain⟨a3,c3,rfl,_,_,h3,f3⟩:=h.c.sl;exact⟨a1,_,c1,a2,_,c2,a3,c3,rfl,h1,f1.mono (fun b hb=>hG b (.inr hb)),TabR.mono h2 (fun _ _ h=>h.mono (fun b hb=>hG b hb.1)),f2.mono (fun b hb=>hG b (.inr hb)),unit_any h3⟩
theorem NodeRows.node {G:Nat→Prop} {p:Int} {l:List (List UInt8×Tr)} (h:NodeRows T1 T2 T3 F n B w v1 v2 v3 (keysOf l) [] (l.map (·.2))) (hG:∀b,F b∨B≤b→G b):NodeOn G (n+1) w [.int .i64 p,.bool false,v1,v2,v3] (.node p l):=by
 obtain⟨a1,c1,rfl,_,_,h1,f1⟩:=h.k.sl;obtain⟨a2,c2,rfl,_,_,h2,f2⟩:=h.v.sl;obtain⟨a3,c3,rfl,_,_,h3,f3⟩:=h.c.sl;exact⟨a1,_,c1,a2,c2,a3,_,c3,rfl,h1,f1.mono (fun b hb=>hG b (.inr hb)),unit_any h2,TabR.mono h3 (fun _ _ h=>NodeOn.mono (fun b hb=>hG b hb.1) h),f3.mono (fun b hb=>hG b (.inr hb))⟩
end
def errP (x:Int):List PanicEntry:=[{ v:=.iface 32 (.int .i64 x),recovered:=false }]
def SeenOk (seen:List Int):Prop:=seen.Nodup∧∀p∈seen,0≤p∧p≤999
theorem nodup_len:∀(n:Nat) (l:List Int),l.Nodup→(∀p∈l,0≤p∧p<n)→l.length≤n
 | 0,l,_,h=>by
  cases l with
  | nil=>simp
  | cons x r=>have:=h x (by simp);omega
 | n+1,l,hd,h=>by
  by_cases hm:(n:Int)∈l
  ·have h1:=nodup_len n (l.erase n) (hd.erase _) (fun p hp=>by
    have h2:=(List.Nodup.mem_erase_iff hd).1 hp;have:=h p h2.2;have:p≠n:=h2.1;omega)
   have:=List.length_erase_of_mem hm;omega
  ·have:=nodup_len n l hd (fun p hp=>by
    have:=h p hp;have:p≠n:=fun e=>hm (e ▸ hp)
    omega)
   omega
theorem SeenOk.len {seen:List Int} (h:SeenOk seen):seen.length≤1000:=nodup_len 1000 seen h.1 (fun p hp=>by have:=h.2 p hp;omega)
theorem SeenOk.nil:SeenOk []:=⟨by simp,by simp⟩
theorem SeenOk.snoc {seen:List Int} {p:Int} (h:SeenOk seen) (hp:p∉seen) (h0:0≤p) (h9:p≤999):SeenOk (seen++[p]):=by
 refine⟨List.nodup_append.2 ⟨h.1,by simp,fun a ha b hb=>?_⟩,fun q hq=>?_⟩
 ·simp at hb;subst hb;exact fun e=>hp (e ▸ ha)
 ·rcases List.mem_append.1 hq with hq|hq
  ·exact h.2 q hq
  ·simp at hq;subst hq;exact⟨h0,h9⟩
theorem SeenOk.see {seen l s:List Int} (h:SeenOk seen) (hs:seeL seen l=some s) (hl:∀p∈l,0≤p∧p≤999):SeenOk s:=by
 induction l generalizing seen with
 | nil=>cases hs;exact h
 | cons p r ih=>
  unfold seeL at hs
  split at hs
  ·cases hs
  ·rename_i hp
   exact ih (h.snoc hp (hl p (by simp)).1 (hl p (by simp)).2) hs (fun q hq=>hl q (List.mem_cons_of_mem _ hq))
structure LdIn (T:Nat) (w:World) (lb mb da M:Nat) (d:List Rg) (r:Int) (seen:List Int):Prop where
 box:w.heap[lb]? = some (.cells #[.pointer (some ⟨da,0,none⟩),.int .i64 r,.map (some mb)] 134 (0,0))
 ct:CtMap w mb seen.length (fun q=>seen.count q)
 dsk:∃F bs,DskIn w F da M bs d∧mb∉F∧∀k∈F,k<T
 ne:lb≠mb
 half:Half w
 hne:mb≠0
 tl:lb<T
 tm:mb<T
 th:0<T
section
variable {T:Nat} {w w':World} {lb mb da M:Nat} {d:List Rg} {r:Int} {seen:List Int}
theorem LdIn.lt (h:LdIn T w lb mb da M d r seen):lb<w.heap.size∧mb<w.heap.size:=⟨(Array.getElem?_eq_some_iff.1 h.box).1,h.ct.lt⟩
theorem LdIn.cell (h:LdIn T w lb mb da M d r seen):w.cell? ⟨lb,0,none⟩=some (.pointer (some ⟨da,0,none⟩))∧w.cell? ⟨lb,1,none⟩=some (.int .i64 r)∧w.cell? ⟨lb,2,none⟩=some (.map (some mb)):=by
 have:=h.box;exact⟨by simp[World.cell?,this],by simp[World.cell?,this],by simp[World.cell?,this]⟩
theorem LdIn.past (h:LdIn T w lb mb da M d r seen) (hb:Below T w w'):LdIn T w' lb mb da M d r seen:=by
 obtain⟨F,bs,h1,h2,h3⟩:=h.dsk;have hT:∀k,k<T→w'.heap[k]? = w.heap[k]? := fun k hk=>hb.block k hk
 have ho:Only (List.range (w.heap.size-T) |>.map (· + T)) w w':=⟨hb.os,hb.tape,hb.output,hb.size,fun k hk hS=>hT k (by
  rcases Nat.lt_or_ge k T with h|h
  ·exact h
  ·exact absurd (List.mem_map.2 ⟨k-T,by simp;omega,by omega⟩) hS)⟩
 refine⟨(hT lb h.tl).trans h.box,h.ct.kept (hT mb h.tm),⟨F,bs,h1.only ho (fun k hk hk2=>?_),h2,h3⟩,h.ne,⟨Nat.lt_of_lt_of_le h.half.1 hb.size,fun i hi=>(World.cell?_of_block (hT _ h.th)).trans (h.half.2 i hi)⟩,h.hne,h.tl,h.tm,h.th⟩;obtain⟨x,hx,rfl⟩:=List.mem_map.1 hk2;have:=h3 _ hk;omega
theorem LdIn.below (h:LdIn T w lb mb da M d r seen) (hT:T≤w.heap.size) (hb:Below w.heap.size w w'):LdIn T w' lb mb da M d r seen:=h.past (hb.mono hT)
theorem LdIn.one (h:LdIn T w lb mb da M d r seen):One 0 w da M d:=by
 obtain⟨F,bs,h1,h2,_⟩:=h.dsk;exact⟨F,bs,h1,fun _ _=>Nat.zero_le _,Nat.zero_le _⟩
theorem LdIn.turn {s2:List Int} (h:LdIn T w lb mb da M d r seen) (hg:w.grownBy w' (some mb)) (hc:CtMap w' mb s2.length (fun q=>s2.count q)):LdIn T w' lb mb da M d r s2:=by
 obtain⟨F,bs,h1,h2,h3⟩:=h.dsk;have ho:Only [mb] w w':=Only.of_grown hg (fun k e=>.inl (by cases e;simp));exact⟨(hg.block lb h.lt.1 (fun e=>h.ne (Option.some.inj e))).trans h.box,hc,⟨F,bs,h1.only ho (fun k hk hk2=>h2 (by simp at hk2;exact hk2 ▸ hk)),h2,h3⟩,h.ne,h.half.grown hg h.hne,h.hne,h.tl,h.tm,h.th⟩
end
theorem must_ok (w:World):Calls Tryz.prog 95 #[.int .i64 0] w fun e w'=>e=.returned (.tuple #[])∧w=w':=by
 go_enter Tryz.func95,Tryz.ntmps95
 go_wp2
 go_end0
 exact⟨rfl,rfl⟩
theorem must_bad {x:Int} (hx:x≠0) (w:World):Calls Tryz.prog 95 #[.int .i64 x] w fun e w'=>e=.panicked (errP x)∧w=w':=by
 have q:(x != 0)=true:=by simpa using hx
 go_enter Tryz.func95,Tryz.ntmps95
 go_wp2
 exact⟨rfl,rfl,rfl⟩
def SeePost (T:Nat) (w:World) (lb mb da M:Nat) (d:List Rg) (r:Int) (R:Option (List Int)) (e:Ending) (w':World):Prop:=
 Only [mb] w w'∧match R with
  | some s=>e=.returned (.tuple #[])∧LdIn T w' lb mb da M d r s
  | none=>e=.panicked (errP 11)
theorem row_only {k:IntKind} {w w':World} {a:Option Addr} {len cap:Nat} {l:List Int} {mb:Nat} (h:Row k w a len cap l) (ho:Only [mb] w w') (hne:∀x,a=some x→x.block≠mb):Row k w' a len cap l:=by
 obtain⟨h1,h2,h3,h4,h5⟩:=h;refine⟨h1,h2,h3,h4,h5.imp id ?_⟩;rintro⟨b,off,rfl,hb,hc⟩;have:=ho.size;exact⟨b,off,rfl,by omega,fun i hi=>(World.cell?_of_block (ho.block hb (by simp;exact hne _ rfl))).trans (hc i hi)⟩
theorem see_any {T:Nat} {w:World} {lb mb da M:Nat} {d:List Rg} {r:Int} {seen ps:List Int} (h:LdIn T w lb mb da M d r seen) (hl:seen.length+ps.length≤100000) (hi:∀p∈ps,I64 p) {a:Option Addr} {n cap:Nat} (hr:Row .i64 w a n cap ps) (hne:∀x,a=some x→x.block≠mb) :
 Calls Tryz.prog 93 #[.pointer (some ⟨lb,0,none⟩),.slice a n cap] w (SeePost T w lb mb da M d r (seeL seen ps)):=by
 have hn:ps.length=n:=hr.1;obtain⟨R,hR⟩:∃R,seeL seen ps=R:=⟨_,rfl⟩
 have HS:=Hd (show LdIn T w lb mb da M d r (seen++ps.take 0)∧seeL (seen++ps.take 0) (ps.drop 0)=R∧Only [mb] w w from⟨by simpa using h,by simpa using hR,Only.refl _ _⟩);have HROW:=Hd hr;have HI:=Hd hi;have HN:=Hd hn;have HNE:=Hd hne;have hcap:=hr.2.2.1;have hncap:=hr.2.1;unfold maxLen at hcap;rw[hR];clear h hi hr hn hR hne;go_enter Tryz.func93,Tryz.ntmps93;go_wp2_with fail
 go_loopw [8] (fun s8 wr=>∃i:Nat,i≤n∧s8=.int .i64 i∧LdIn T wr lb mb da M d r (seen++ps.take i)∧seeL (seen++ps.take i) (ps.drop i)=R∧Only [mb] w wr) (fun s _=>n-(intOf s).toNat)
 case atStart=>exact⟨0,Nat.zero_le _,rfl,HS.out⟩
 case round=>
  clear HS;obtain⟨i,hi,rfl,h1,h2,h3⟩:=hrel
  by_cases hlt:i<n
  ·have e1:∃p,ps[i]? = some p:=⟨ps[i]'(by rw[HN.out];exact hlt),by simp⟩
   obtain⟨p,hp⟩:=e1;have hpm:p∈ps:=List.mem_of_getElem? hp;have hpi:=HI.out p hpm;have hdr:ps.drop i=p::ps.drop (i+1):=by
    have:=List.getElem?_eq_some_iff.1 hp;rw[←this.2,List.drop_eq_getElem_cons]
   have htk:ps.take (i+1)=ps.take i++[p]:=List.take_succ_eq_append_of hp;have hlen:(seen++ps.take i).length≤100000:=by have:=HN.out;simp;omega
   obtain⟨c0,c1,c2⟩:=h1.cell;obtain⟨b,off,rfl,hbl,hc⟩:=(row_only HROW.out h3 HNE.out).2.2.2.2.resolve_left (by omega);have k0:=hc i hlt;rw[hp] at k0;have hlk:=h1.ct.lookup p hpi;obtain⟨w2,hu,hct2,hg⟩:=h1.ct.inc p hpi (by omega);have hd2:LdIn T w2 lb mb da M d r (seen++ps.take i++[p]):=h1.turn hg (by have:=hct2;rwa [show(seen++ps.take i).length+1=(seen++ps.take i++[p]).length by simp;omega] at this);have ho2:Only [mb] w w2:=h3.trans (Only.of_grown hg (fun k e=>.inl (by cases e;simp)));obtain⟨d0,d1,d2⟩:=hd2.cell;have hlk2:=hd2.ct.lookup p hpi;rw[List.count_append] at hlk2;have hcm:p∈seen++ps.take i↔0<(seen++ps.take i).count p:=List.count_pos_iff.symm;have hc1:[p].count p=1:=by simp
   rw[hc1] at hlk2;obtain⟨ct,hct⟩:∃ct,(seen++ps.take i).count p=ct:=⟨_,rfl⟩
   have hct9:ct≤100000:=by rw[←hct];exact Nat.le_trans (List.count_le_length ..) hlen
   rw[hct] at hlk hu hlk2 hcm;rw[hdr] at h2;unfold seeL at h2;have q1:decide ((i:Int)<(n:Int))=true:=decide_eq_true (by omega);have q2:decide (i<n)=true:=decide_eq_true hlt;have iw:IntKind.i64.wrap ((ct:Int)+1)=(ct:Int)+1:=by simp[IntKind.wrap,IntKind.signed,IntKind.bits];omega
   have iw2:IntKind.i64.wrap ((i:Int)+1)=(i:Int)+1:=by simp[IntKind.wrap,IntKind.signed,IntKind.bits];omega
   have HD2:=Hd hd2;have HO2:=Hd ho2;have HTK:=Hd htk
   by_cases hmem:p∈seen++ps.take i
   ·rw[if_pos hmem] at h2
    have h0:=hcm.1 hmem;have q3:decide ((1:Int)<((ct+1:Nat):Int))=true:=decide_eq_true (by omega);have q4:decide ((1:Int)<(ct:Int)+1)=true:=decide_eq_true (by omega);have HEP:Hid (SeePost T w lb mb da M d r R (.panicked (errP 11)) w2):=Hd (by rw[←h2];exact⟨ho2,rfl⟩);clear h1 h2 h3 hdr htk hd2 ho2 hct2 hg hcm hct hc hc1 hp hmem hpm;go_wp2_with fail;exact⟨rfl,HEP.out⟩
   ·rw[if_neg hmem] at h2
    have h0:ct=0:=by
     rcases Nat.eq_zero_or_pos ct with h|h
     ·exact h
     ·exact absurd (hcm.2 h) hmem
    have q3:decide ((1:Int)<((ct+1:Nat):Int))=false:=decide_eq_false (by omega);have q4:decide ((1:Int)<(ct:Int)+1)=false:=decide_eq_false (by omega);clear h0;have H2:=Hd h2;clear h1 h2 h3 hdr htk hd2 ho2 hct2 hg hcm hct hc hc1 hp hmem hpm;go_wp2_with fail;go_roundw
    case rel=>exact⟨i+1,hlt,by go_num,by rw[HTK.out,←List.append_assoc];exact HD2.out,by rw[HTK.out,←List.append_assoc];exact H2.out,HO2.out⟩
    case measure=>simp[intOf];omega
  ·have q1:decide ((i:Int)<(n:Int))=false:=decide_eq_false (by omega)
   have q2:decide (i<n)=false:=decide_eq_false hlt;have hin:i=n:=by omega
   have HE:Hid (SeePost T w lb mb da M d r R (.returned (.tuple #[])) wr):=Hd (by
    have e1:ps.drop i=[]:=List.drop_of_length_le (by have:=HN.out;omega);rw[e1] at h2;cases h2;exact⟨h3,rfl,h1⟩)
   clear h1 h2 h3 hin;go_wp2_with fail
   go_end0
   exact HE.out
open Go.RowKit
def afterL {α:Type} (Li:List α):Except Int (List Int×List α)→Except Int (List Int×List α)
 | .error x=>.error x
 | .ok (s,L)=>.ok (s,Li++L)
theorem afterL_nil {α:Type} (R:Except Int (List Int×List α)):afterL [] R=R:=by
 cases R with
 | error x=>rfl
 | ok y=>rfl
theorem afterL_app {α:Type} (A B:List α) (R:Except Int (List Int×List α)):afterL A (afterL B R)=afterL (A++B) R:=by
 cases R with
 | error x=>rfl
 | ok y=>obtain⟨s,L⟩:=y;simp[afterL]
theorem valsL_err {d:List Rg} {r:Int} {seen:List Int} {e:En} {l:List En} {x:Int} (h:valL d r seen e.v=.error x):valsL d r seen (e::l)=.error x:=by
 unfold valsL;rw[h]
theorem valsL_ok {d:List Rg} {r:Int} {seen s:List Int} {e:En} {l:List En} {v:Tv} (h:valL d r seen e.v=.ok (s,v)):valsL d r seen (e::l)=afterL [(e.key,v)] (valsL d r s l):=by
 rw[valsL,h];dsimp only;cases valsL d r s l with
 | error x=>rfl
 | ok y=>rfl
theorem kidsL_err {f:List Int→Int→Except Int (List Int×Tr)} {seen:List Int} {e:En} {l:List En} {x:Int} (h:f seen e.v.page=.error x):kidsL f seen (e::l)=.error x:=by
 unfold kidsL;rw[h]
theorem kidsL_ok {f:List Int→Int→Except Int (List Int×Tr)} {seen s:List Int} {e:En} {l:List En} {v:Tr} (h:f seen e.v.page=.ok (s,v)):kidsL f seen (e::l)=afterL [(e.key,v)] (kidsL f s l):=by
 rw[kidsL,h];dsimp only;cases kidsL f s l with
 | error x=>rfl
 | ok y=>rfl
def DOk (d:List Rg):Prop:=∀x∈d,x.size≤1000
theorem paged_range {d:List Rg} {r p:Int} (hd:DOk d) (h:pagedE d r p=0):0≤p∧p≤999:=by
 obtain⟨i,pn,x,rfl,rfl,h1,_,h2⟩:=pagedE_zero h;have:=hd x (List.mem_of_getElem? h1);omega
theorem LdIn.dok {T:Nat} {w:World} {lb mb da M:Nat} {d:List Rg} {r:Int} {seen:List Int} (h:LdIn T w lb mb da M d r seen):DOk d:=by
 obtain⟨F,bs,h1,_⟩:=h.dsk;intro x hx;obtain⟨i,hi⟩:=List.getElem?_of_mem hx;have hl:=h1.len;have hlt:=(List.getElem?_eq_some_iff.1 hi).1;obtain⟨mb,n,v,_,_,_,_,_,_,_,_,h9,_⟩:=h1.reg i (bs[i]'(by omega)) x (by simp) hi;exact h9
theorem leaf_page {l:List En} (h:nodeB true l=true):∀e∈l,I64 e.v.page∧(e.v.far=true→pgC e.v.page=true):=fun e he=>by
 obtain⟨i,hi⟩:=nodeB_may h e he;simp only[mayN,if_true,mayL] at hi
 split at hi
 ·rename_i hf
  simp only[Bool.and_eq_true] at hi;have h1:=(pageB_iff _).1 hi.2.2.2.2;exact⟨by unfold I64;omega,fun _=>by simp[pgC];omega⟩
 ·rename_i hf
  simp only[Bool.and_eq_true,beq_iff_eq] at hi;exact⟨by rw[hi.2.2.2];unfold I64;omega,fun h=>absurd h hf⟩
theorem valL_seen {d:List Rg} {r:Int} {seen s:List Int} {v:Vv} {x:Tv} (h:valL d r seen v=.ok (s,x)) (hv:v.far=true→pgC v.page=true) (hs:SeenOk seen):SeenOk s∧∃l,s=seen++l:=by
 unfold valL at h
 split at h
 ·cases h;exact⟨hs,[],by simp⟩
 ·rename_i hf
  split at h
  ·cases h
  ·split at h
   ·cases h
   ·rename_i s' he
    cases h;refine⟨hs.see he (fun p hp=>?_),_,seeL_app he⟩
    rcases(getDC_at _ _ _ _).1 p hp with e|e
    ·have:=pgC_lt (hv (by simpa using hf));rw[e];omega
    ·have:=pgC_lt e;omega
theorem kidsL_seen {f:List Int→Int→Except Int (List Int×Tr)} (hf:∀seen p s t,p≠0→SeenOk seen→f seen p=.ok (s,t)→SeenOk s∧∃l,s=seen++l):∀{l:List En} {seen s:List Int} {L:List (List UInt8×Tr)},(∀e∈l,e.v.page≠0)→SeenOk seen→kidsL f seen l=.ok (s,L)→SeenOk s∧∃l,s=seen++l
 | [],seen,s,L,_,hs,h=>by cases h;exact⟨hs,[],by simp⟩
 | e::l,seen,s,L,hl,hs,h=>by
  unfold kidsL at h
  split at h
  ·cases h
  ·rename_i s1 t1 h1
   split at h
   ·cases h
   ·rename_i s2 L2 h2
    cases h;obtain⟨k1,l1,rfl⟩:=hf _ _ _ _ (hl e (by simp)) hs h1;obtain⟨k2,l2,rfl⟩:=kidsL_seen hf (fun e he=>hl e (List.mem_cons_of_mem _ he)) k1 h2;exact⟨k2,l1++l2,by simp⟩
theorem valsL_seen {d:List Rg} {r:Int}:∀{l:List En} {seen s:List Int} {L:List (List UInt8×Tv)},(∀e∈l,e.v.far=true→pgC e.v.page=true)→SeenOk seen→valsL d r seen l=.ok (s,L)→SeenOk s∧∃l,s=seen++l
 | [],seen,s,L,_,hs,h=>by cases h;exact⟨hs,[],by simp⟩
 | e::l,seen,s,L,hl,hs,h=>by
  unfold valsL at h
  split at h
  ·cases h
  ·rename_i s1 t1 h1
   split at h
   ·cases h
   ·rename_i s2 L2 h2
    cases h;obtain⟨k1,l1,rfl⟩:=valL_seen h1 (hl e (by simp)) hs;obtain⟨k2,l2,rfl⟩:=valsL_seen (fun e he=>hl e (List.mem_cons_of_mem _ he)) k1 h2;exact⟨k2,l1++l2,by simp⟩
theorem loadT_seen {d:List Rg} {r:Int} (hd:DOk d):∀{n:Nat} {seen s:List Int} {p:Int} {t:Tr},p≠0→SeenOk seen→loadT d r n seen p=.ok (s,t)→SeenOk s∧∃l,s=seen++l
 | 0,_,_,_,_,_,_,h=>by cases h
 | n+1,seen,s,p,t,hp,hs,h=>by
  unfold loadT at h
  split at h
  ·cases h
  ·rename_i hm
   split at h
   ·cases h
   ·rename_i hP
    split at h
    ·cases h
    ·rename_i hE
     have hr:=paged_range hd (by simpa using hP);have hE0:getNE (readB d r p)=0:=by simpa using hE
     have hs1:=hs.snoc hm hr.1 hr.2
     split at h
     ·rename_i hF
      split at h
      ·cases h
      ·rename_i hv
       cases h;have hN:=getN_node hE0;rw[hF] at hN;obtain⟨k,l,rfl⟩:=valsL_seen (fun e he=>(leaf_page hN e he).2) hs1 hv;exact⟨k,p::l,by simp⟩
     ·rename_i hF
      split at h
      ·cases h
      ·rename_i hv
       cases h;have hN:=getN_node hE0;obtain⟨_,_,n3⟩:=nodeB_small hN;obtain⟨k,l,rfl⟩:=kidsL_seen (fun _ _ _ _ hp hs h=>loadT_seen hd hp hs h) (fun e he=>by have:=n3 (by simpa using hF) e he;omega) hs1 hv;exact⟨k,p::l,by simp⟩
inductive Bare:Tr→Prop
 | leaf {l:List (List UInt8×Tv)}:(∀c∈l,c.2.pages=[])→Bare (.leaf 0 l)
 | node {l:List (List UInt8×Tr)}:(∀c∈l,Bare c.2)→Bare (.node 0 l)
def CBare (l:List (List UInt8×Tr)):Prop:=∀c∈l,Bare c.2
theorem bare_zero:Bare Tr.zero:=.leaf (by simp)
theorem Bare.page0 {t:Tr} (h:Bare t):t.page=0:=by cases h<;>rfl
theorem bare_kids {p:Int} {l:List (List UInt8×Tr)} (h:Bare (.node p l)):p=0∧CBare l:=by cases h with|node h=>exact⟨rfl,h⟩
theorem bare_vals {p:Int} {l:List (List UInt8×Tv)} (h:Bare (.leaf p l)):p=0∧∀c∈l,c.2.pages=[]:=by cases h with|leaf h=>exact⟨rfl,h⟩
theorem CBare.kid {l:List (List UInt8×Tr)} (h:CBare l) (k:Nat):Bare (kidAt l k):=by
 unfold kidAt;cases hk:l[k]? with
 | none=>exact bare_zero
 | some c=>exact h c (List.mem_of_getElem? hk)
theorem CBare.take {l:List (List UInt8×Tr)} (h:CBare l) (k:Nat):CBare (l.take k):=fun c hc=>h c (List.mem_of_mem_take hc)
theorem CBare.drop {l:List (List UInt8×Tr)} (h:CBare l) (k:Nat):CBare (l.drop k):=fun c hc=>h c (List.mem_of_mem_drop hc)
theorem CBare.append {l m:List (List UInt8×Tr)} (h:CBare l) (g:CBare m):CBare (l++m):=fun c hc=>(List.mem_append.1 hc).elim (h c) (g c)
theorem CBare.cons {c:List UInt8×Tr} {l:List (List UInt8×Tr)} (h:Bare c.2) (g:CBare l):CBare (c::l):=fun x hx=>(List.mem_cons.1 hx).elim (fun e=>e ▸ h) (g x)
theorem CBare.firstK {l:List (List UInt8×Tr)} (h:CBare l) (key:List UInt8):CBare (firstK key l):=by
 cases l with
 | nil=>exact h
 | cons c r=>exact CBare.cons (h c (by simp)) (fun x hx=>h x (List.mem_cons_of_mem _ hx))
theorem bare_part {t:Tr} (h:Bare t) (k:Nat):Bare (partT k t).1∧Bare (partT k t).2.1:=by
 cases h with
 | leaf h=>exact⟨.leaf fun c hc=>h c (List.mem_of_mem_take hc),.leaf fun c hc=>h c (List.mem_of_mem_drop hc)⟩
 | node h=>exact⟨.node (CBare.take h k),.node ((CBare.drop h k).firstK [])⟩
theorem bare_split {l m:List (List UInt8×Tr)} (h:CBare l) {k:Nat} (hs:splitT l k=some m):CBare m:=by
 unfold splitT at hs
 split at hs
 ·cases hs
 ·cases hs
  have hp:=bare_part (h.kid k) (atF (sizesT (kidAt l k))).toNat;exact(h.take k).append (CBare.cons hp.1 (CBare.cons hp.2 (h.drop _)))
theorem bare_join {a b:Tr} (ha:Bare a) (hb:Bare b) (key:List UInt8):Bare (joinT key a b):=by
 cases ha with
 | leaf h=>
  cases hb with
  | leaf g=>exact .leaf fun c hc=>(List.mem_append.1 hc).elim (h c) (g c)
  | node g=>exact .leaf h
 | node h=>
  cases hb with
  | leaf g=>exact .node h
  | node g=>exact .node (CBare.append h (CBare.firstK g key))
theorem bare_joined {l:List (List UInt8×Tr)} (h:CBare l) (j:Nat):CBare (joined l j):=
 (h.take j).append (CBare.cons (bare_join (h.kid j) (h.kid (j+1)) _) (h.drop _))
theorem bare_mend {l:List (List UInt8×Tr)} (h:CBare l) (k:Nat):Bare (mendT 0 l k):=by
 unfold mendT
 split
 ·rename_i m hm;exact .node (bare_split h hm)
 ·split
  ·exact .node h
  ·split
   ·rename_i m hm;exact .node (bare_split (bare_joined h _) hm)
   ·exact .node (bare_joined h _)
theorem CBare.set {l:List (List UInt8×Tr)} (h:CBare l) (k:Nat) {c:List UInt8×Tr} (hc:Bare c.2):CBare (l.set k c):=fun x hx=>(List.mem_or_eq_of_mem_set hx).elim (h x) (fun e=>e ▸ hc)
theorem bare_put {v:Tv} (hv:v.pages=[]) {key:List UInt8}:∀{n:Nat} {t:Tr},Bare t→Bare (putT n t key v)
 | 0,_,h=>h
 | n+1,.leaf _ l,h=>by
  obtain⟨_,hl⟩:=bare_vals h;exact .leaf fun c hc=>(putL_mem hc).elim (fun e=>e ▸ hv) (hl c)
 | n+1,.node _ l,h=>by
  obtain⟨_,hl⟩:=bare_kids h;exact bare_mend (hl.set _ (bare_put hv (hl.kid _))) _
theorem bare_top:∀{n:Nat} {t:Tr},Bare t→Bare (topT n t)
 | 0,_,h=>h
 | n+1,.node p l,h=>by
  obtain⟨rfl,hl⟩:=bare_kids h;unfold topT
  split
  ·exact bare_top (hl.kid 0)
  ·split
   ·exact h
   ·exact bare_mend (fun c hc=>by simp at hc;subst hc;exact h) 0
 | n+1,.leaf p l,h=>by
  unfold topT
  split
  ·exact h
  ·exact bare_mend (fun c hc=>by simp at hc;subst hc;exact h) 0
theorem bare_putW {n:Nat} {t:Tr} {key:List UInt8} {v:Tv} (h:Bare t) (hv:v.pages=[]):Bare (putW n t key v):=bare_top (bare_put hv h)
def freshN:Nat→Tr→Nat
 | 0,_=>0
 | _+1,.leaf _ l=>if l=[] then 0 else 1+(l.map fun c=>needC c.2.data.length).sum
 | n+1,.node _ l=>1+(l.map fun c=>freshN n c.2).sum
abbrev Wr:=Int×List UInt8
def layVs:List (List UInt8×Tv)→List Int→List (List UInt8×Tv)×List Wr×List Int
 | [],s=>([],[],s)
 | c::r,s=>
  if needC c.2.data.length=0 then (c::(layVs r s).1,(layVs r s).2.1,(layVs r s).2.2)
  else ((c.1,⟨c.2.data,s.take (needC c.2.data.length)⟩)::(layVs r (s.drop (needC c.2.data.length))).1,
   (s.take (needC c.2.data.length)).zip (putLC c.2.data (s.take (needC c.2.data.length)))++(layVs r (s.drop (needC c.2.data.length))).2.1,(layVs r (s.drop (needC c.2.data.length))).2.2)
def layKs (f:Tr→List Int→Tr×List Wr×List Int):List (List UInt8×Tr)→List Int→List (List UInt8×Tr)×List Wr×List Int
 | [],s=>([],[],s)
 | c::r,s=>((c.1,(f c.2 s).1)::(layKs f r (f c.2 s).2.2).1,(f c.2 s).2.1++(layKs f r (f c.2 s).2.2).2.1,(layKs f r (f c.2 s).2.2).2.2)
def entV (c:List UInt8×Tv):En:=if c.2.pages=[] then ⟨c.1,⟨c.2.data,false,0,0⟩⟩ else ⟨c.1,⟨[],true,c.2.data.length,c.2.pages.headD 0⟩⟩
def entK (c:List UInt8×Tr):En:=⟨c.1,⟨[],false,0,c.2.page⟩⟩
def layT:Nat→Tr→List Int→Tr×List Wr×List Int
 | 0,t,s=>(t,[],s)
 | _+1,.leaf p l,s=>
  if l=[] then (.leaf p l,[],s)
  else (.leaf ((layVs l s).2.2.headD 0) (layVs l s).1,(layVs l s).2.1++[((layVs l s).2.2.headD 0,putN true ((layVs l s).1.map entV))],(layVs l s).2.2.drop 1)
 | n+1,.node _ l,s=>
  (.node ((layKs (layT n) l s).2.2.headD 0) (layKs (layT n) l s).1,(layKs (layT n) l s).2.1++[((layKs (layT n) l s).2.2.headD 0,putN false ((layKs (layT n) l s).1.map entK))],(layKs (layT n) l s).2.2.drop 1)
theorem layVs_left:∀(l:List (List UInt8×Tv)) (s:List Int),(layVs l s).2.2=s.drop (l.map fun c=>needC c.2.data.length).sum
 | [],s=>by simp[layVs]
 | c::r,s=>by
  unfold layVs
  split
  ·rename_i h;simp only[List.map_cons,List.sum_cons,h,Nat.zero_add];exact layVs_left r s
  ·simp only[List.map_cons,List.sum_cons]
   rw[layVs_left r,List.drop_drop]
theorem layKs_left {f:Tr→List Int→Tr×List Wr×List Int} {g:Tr→Nat} (hf:∀t s,(f t s).2.2=s.drop (g t)):∀(l:List (List UInt8×Tr)) (s:List Int),(layKs f l s).2.2=s.drop (l.map fun c=>g c.2).sum
 | [],s=>by simp[layKs]
 | c::r,s=>by
  unfold layKs;simp only[List.map_cons,List.sum_cons];rw[layKs_left hf r,hf,List.drop_drop]
theorem layT_left:∀(n:Nat) (t:Tr) (s:List Int),(layT n t s).2.2=s.drop (freshN n t)
 | 0,t,s=>by simp[layT,freshN]
 | n+1,.leaf p l,s=>by
  unfold layT freshN
  split
  ·simp
  ·rw[layVs_left,List.drop_drop,Nat.add_comm]
 | n+1,.node p l,s=>by
  unfold layT freshN;dsimp only;rw[layKs_left (fun t s=>layT_left n t s),List.drop_drop,Nat.add_comm]
open Go.RowKit
open Go.RowKit
theorem tempty_any (w:World) (F:Nat→Prop):Calls Tryz.prog 50 #[] w (NodeTo F 1 w (.leaf 0 [])):=by
 go_enter Tryz.func50,Tryz.ntmps50;go_wp2_with fail;refine bodyPost_ret (v:=.agg #[.int .i64 0,.bool true,.slice none 0 0,.slice none 0 0,.slice none 0 0]) (by simp[results,Tryz.results50,go_sem]) rfl ⟨[.int .i64 0,.bool true,.slice none 0 0,.slice none 0 0,.slice none 0 0],rfl,?_,?_⟩
 ·exact NodeOn.shut (V:=[]) (C:=[]) rfl rfl (K:=[]) rfl (Raw.nil0 _ _) (Raw.nil0 _ _) (Raw.nil0 _ _) (Fa.zero _ _) (Fa.zero _ _) (Fa.zero _ _) ⟨Tells.nil,Tells.nil,rfl⟩
 ·exact Below.al (Below.refl _ _)
open Go.RowKit
open Go.RowKit
theorem shape_cnt {n:Nat} {lo hi:List UInt8} {t:Tr} (h:Shape n lo hi t) (hs:sumT t≤200):cntT t≤50:=by
 have h1:=len_sum (fun x hx=>(shape_cells h x hx).1);have e:(sizesT t).length=cntT t:=sizes_len t;have:sumI (sizesT t)=sumT t:=rfl;omega
theorem kid_keys {P:List UInt8→List UInt8→Tr→Prop} {lo hi:List UInt8} {l:List (List UInt8×Tr)} (h:KidsP P lo hi l) (h0:keyAt l 0=[]):∀c∈l,c.1.length≤16:=by
 cases l with
 | nil=>intro c hc;cases hc
 | cons c r=>
  intro d hd
  rcases List.mem_cons.1 hd with rfl|hd
  ·have:d.1=[]:=by simpa[keyAt] using h0
   rw[this];simp
  ·exact(kids_keys h d hd).2
theorem shape_bnd:∀{n:Nat} {lo hi:List UInt8} {t:Tr},Shape n lo hi t→sumT t≤200→Bnd n t
 | 0,_,_,_,h,_=>h.elim
 | n+1,lo,hi,.leaf p l,h,hs=>by
  have hc:=shape_cnt h hs;obtain⟨rfl,hl⟩:=h;have:l.length≤50:=hc;refine⟨by omega,fun c hm=>?_⟩;obtain⟨h1,_,_,h2⟩:=hl.2 c hm;have:=h1.2;have:=h2.1;omega
 | n+1,lo,hi,.node p l,h,hs=>by
  have hc:=shape_cnt h hs;obtain⟨h1,h0⟩:=shape_kids h;have:l.length≤50:=hc;refine⟨by omega,fun c hm=>⟨by have:=kid_keys h1 h0 c hm;omega,?_⟩⟩;obtain⟨lo',hi',g⟩:=kids_each h1 c hm;exact shape_bnd g.1 (by have:=g.2.2;omega)
theorem bnd_join {n:Nat} {key:List UInt8} {x y:Tr} (hx:Bnd (n+1) x) (hy:Bnd (n+1) y) (h1:cntT x≤400) (h2:cntT y≤400) (hk:key.length≤200):Bnd (n+1) (joinT key x y):=by
 cases x with
 | leaf p l=>
  cases y with
  | leaf q m=>
   have h1:l.length≤400:=h1;have h2:m.length≤400:=h2;refine⟨by simp;omega,fun c hc=>?_⟩
   rcases List.mem_append.1 hc with hc|hc
   ·exact hx.2 c hc
   ·exact hy.2 c hc
  | node q m=>exact hx
 | node p l=>
  cases y with
  | leaf q m=>exact hx
  | node q m=>
   have h1:l.length≤400:=h1;have h2:m.length≤400:=h2;have e:(firstK key m).length=m.length:=by cases m<;>rfl
   refine⟨by rw[List.length_append];omega,fun c hc=>?_⟩
   rcases List.mem_append.1 hc with hc|hc
   ·exact hx.2 c hc
   ·cases m with
    | nil=>cases hc
    | cons d r=>
     rcases List.mem_cons.1 hc with rfl|hc
     ·exact⟨hk,(hy.2 d (by simp)).2⟩
     ·exact hy.2 c (List.mem_cons_of_mem _ hc)
theorem mendOk_of {m:Nat} {l:List (List UInt8×Tr)} (hlen:l.length≤1000) (h:∀c∈l,c.1.length≤200∧∃lo hi,Shape (m+1) lo hi c.2∧sumT c.2≤200):MendOk m l where
 len:=hlen
 bnd:=fun c hc=>by obtain⟨_,lo,hi,h1,h2⟩:=h c hc;exact shape_bnd h1 h2
 kind:=fun c hc d hd=>by
  obtain⟨_,lo,hi,h1,_⟩:=h c hc;obtain⟨_,lo',hi',h2,_⟩:=h d hd;rw[shape_kind h1,shape_kind h2]
 some_:=fun c hc hl=>by
  obtain⟨_,lo,hi,h1,_⟩:=h c hc;cases hcc:c.2 with
  | leaf p l=>rw[hcc] at hl;cases hl
  | node p l=>rw[hcc] at h1;exact List.length_pos_iff.2 (kids_ne (shape_kids h1).1)
 both:=fun j hj=>by
  obtain⟨c,hc,ec⟩:=kid_mem (l:=l) (k:=j) (by omega);obtain⟨d,hd,ed⟩:=kid_mem (l:=l) (k:=j+1) hj;obtain⟨_,lo,hi,h1,s1⟩:=h c hc;obtain⟨_,lo',hi',h2,s2⟩:=h d hd;have hk:(keyAt l (j+1)).length≤200:=by
   have:=(h l[j+1] (List.getElem_mem hj)).1;simpa[keyAt,hj] using this
  rw[←ec,←ed];exact bnd_join (shape_bnd h1 s1) (shape_bnd h2 s2) (by have:=shape_cnt h1 s1;omega) (by have:=shape_cnt h2 s2;omega) hk
theorem node_kids {n:Nat} {lo hi:List UInt8} {p:Int} {l:List (List UInt8×Tr)} (h:Shape (n+1) lo hi (.node p l)):∀c∈l,c.1.length≤200∧∃lo hi,Shape n lo hi c.2∧sumT c.2≤200:=by
 obtain⟨h1,h0⟩:=shape_kids h;intro c hc;obtain⟨lo',hi',g⟩:=kids_each h1 c hc;exact⟨by have:=kid_keys h1 h0 c hc;omega,lo',hi',g.1,by have:=g.2.2;omega⟩
theorem set_kids {n:Nat} {l:List (List UInt8×Tr)} (h:∀c∈l,c.1.length≤200∧∃lo hi,Shape n lo hi c.2∧sumT c.2≤200) {k:Nat} {key:List UInt8} {T:Tr} (hk:key.length≤200) {lo hi:List UInt8} (hT:Shape n lo hi T) (hs:sumT T≤200) :
 ∀c∈l.set k (key,T),c.1.length≤200∧∃lo hi,Shape n lo hi c.2∧sumT c.2≤200:=by
 intro c hc
 rcases List.mem_or_eq_of_mem_set hc with hc|rfl
 ·exact h c hc
 ·exact⟨hk,lo,hi,hT,hs⟩
theorem key_len {n:Nat} {l:List (List UInt8×Tr)} (h:∀c∈l,c.1.length≤200∧∃lo hi,Shape n lo hi c.2∧sumT c.2≤200) (k:Nat):(keyAt l k).length≤200:=by
 unfold keyAt;cases e:l[k]? with
 | none=>simp
 | some c=>exact(h c (List.mem_of_getElem? e)).1
theorem putOk_of:∀{n:Nat} {lo hi key:List UInt8} {v:Tv} {t:Tr},Shape n lo hi t→sumT t≤122→(∀p l,t=.node p l→2≤l.length)→keyOk key→¬key<lo→ltH hi key→valOk v→PutOk n t key v
 | 0,_,_,_,_,_,h,_,_,_,_,_,_=>h.elim
 | n+1,lo,hi,key,v,.leaf p l,h,hs,_,hk,hlo,hhi,hv=>by
  have hc:l.length≤50:=shape_cnt h (by omega);obtain⟨rfl,hl⟩:=h;exact⟨by omega,hl.1⟩
 | n+1,lo,hi,key,v,.node p l,h,hs,h2,hk,hlo,hhi,hv=>by
  have hc:l.length≤50:=shape_cnt h (by omega);have hall:=node_kids h;obtain⟨h1,h0⟩:=shape_kids h;have hl2:=h2 p l rfl;obtain⟨a,c,b,lo',hi',e,hal,hcx,hp,g1,g2⟩:=way_focus h1 hlo hhi;have hkid:kidAt l (wayF (keysOf l) key)=c.2:=by
   rw[←hal]
   conv=>lhs;rw[e]
   exact kidAt_at a b c
  have i0:=putOk_of hp.1 hp.2.2 (fun q m e=>good_len (p:=q) (by rw[←e];exact hp)) hk g1 g2 hv;obtain⟨i1,i2,_⟩:=put_ok hp.1 hp.2.2 (fun q m e=>good_len (p:=q) (by rw[←e];exact hp)) hk g1 g2 hv;cases n with
  | zero=>exact hp.1.elim
  | succ m=>
   refine⟨by omega,by omega,by rw[hkid];exact i0,m,rfl,?_⟩;rw[hkid];exact mendOk_of (by simp;omega) (set_kids hall (key_len hall _) i1 (by omega))
theorem topOk_of:∀{n:Nat} {t:Tr},Shape n [] [] t→sumT t≤200→TopOk n t
 | 0,_,h,_=>h.elim
 | n+1,t,h,hs=>by
  refine⟨shape_bnd h hs,fun hl=>?_,fun p l e h1=>?_⟩
  ·cases t with
   | leaf p l=>cases hl
   | node p l=>exact List.length_pos_iff.2 (kids_ne (shape_kids h).1)
  ·subst e
   obtain⟨hk,h0⟩:=shape_kids h;obtain⟨c,rfl⟩:=List.length_eq_one_iff.1 h1;have hg:Good n [] [] c.2:=hk;have:=topOk_of hg.1 (by have:=hg.2.2;omega);simpa[kidAt] using this
theorem Whole.bnd {n:Nat} {t:Tr} (h:Whole n t):Bnd n t:=shape_bnd h.1.1 (by have:=h.1.2.1;omega)
theorem Whole.put {n:Nat} {t:Tr} {key:List UInt8} {v:Tv} (h:Whole n t) (hk:keyOk key) (hv:valOk v):PutOk n t key v∧TopOk n (putT n t key v):=by
 obtain⟨i1,i2,_⟩:=put_ok h.1.1 h.1.2.1 h.1.2.2 hk (knil key) (ltH_nil _) hv;exact⟨putOk_of h.1.1 h.1.2.1 h.1.2.2 hk (knil key) (ltH_nil _) hv,topOk_of i1 (by omega)⟩
theorem NodeOn.less {F:Nat→Prop}:∀{m n:Nat} {lo hi:List UInt8} {w:World} {cs:List Value} {t:Tr},NodeOn F n w cs t→Shape m lo hi t→NodeOn F m w cs t
 | 0,_,_,_,_,_,_,_,h=>h.elim
 | _,0,_,_,_,_,_,h,_=>h.elim
 | m+1,n+1,lo,hi,w,cs,.leaf p l,h,_=>h
 | m+1,n+1,lo,hi,w,cs,.node p l,h,hs=>by
  obtain⟨ka,kn,kc,va,vc,ca,cn,cc,e,h1,f1,h2,h3,f3⟩:=h;refine⟨ka,kn,kc,va,vc,ca,cn,cc,e,h1,f1,h2,?_,f3⟩;have hall:=node_kids hs;exact TabR.agree h3 (Fa.mono f3 (fun _ h=>h)) (AgreeF.refl w) (fun cs y hy h=>by
   obtain⟨c,hc,rfl⟩:=List.mem_map.1 hy;obtain⟨_,lo',hi',g,_⟩:=hall c hc;exact NodeOn.less h g)
theorem sumI_kids (l:List (List UInt8×Tr)) (p:Int) (h1:l.length=1) (h0:keyAt l 0=[]):sumT (.node p l)=4:=by
 match l,h1,h0 with
 | [c],_,h0=>
  have:c.1=[]:=h0;simp[sumT,sizesT,sumI,this]
theorem fresh_good:∀{n:Nat} {lo hi:List UInt8} {t:Tr},Shape n lo hi t→30≤sumT t→freshN n t+1≤6*(entsT n t).length
 | 0,_,_,_,h,_=>h.elim
 | n+1,lo,hi,.leaf p l,h,hs=>by
  have hne:l≠[]:=fun e=>by subst e;simp[sumT,sizesT,sumI] at hs
  have hpos:=List.length_pos_iff.2 hne;have hsum:∀l:List (List UInt8×Tv),(l.map fun c=>needC c.2.data.length).sum≤4*l.length:=fun l=>by
   induction l with
   | nil=>simp
   | cons c r ih=>simp only[List.map_cons,List.sum_cons,List.length_cons];have:=needC_le (c.2.data.length:Int);omega
  have:=hsum l;rw[freshN,if_neg hne,entsT];omega
 | n+1,lo,hi,.node p l,h,hs=>by
  obtain⟨h1,h0⟩:=h;have hne:=kids_ne h1;have hlen:l.length≠1:=fun e=>by rw[sumI_kids l p e h0] at hs;omega
  have hpos:=List.length_pos_iff.2 hne;have hall:∀c∈l,freshN n c.2+1≤6*(entsT n c.2).length:=fun c hc=>by
   obtain⟨lo',hi',g1,g2,_⟩:=kids_each h1 c hc;exact fresh_good g1 g2
  have me90b89:=trivial;exact q28a53e
theorem fresh_whole {n:Nat} {t:Tr} (h:Whole n t):freshN n t≤6*(entsT n t).length:=by
 obtain⟨⟨h1,_,h3⟩,_⟩:=h;cases n with
 | zero=>exact h1.elim
 | succ n=>
  cases t with
  | leaf p l=>
   have hsum:∀l:List (List UInt8×Tv),(l.map fun c=>needC c.2.data.length).sum≤4*l.length:=fun l=>by
    induction l with
    | nil=>simp
    | cons c r ih=>simp only[List.map_cons,List.sum_cons,List.length_cons];have:=needC_le (c.2.data.length:Int);omega
   have:=hsum l;rw[freshN,entsT]
   split
   ·omega
   ·rename_i hne
    have:=List.length_pos_iff.2 hne;omega
  | node p l=>
   obtain⟨k1,_⟩:=h1;have hall:∀c∈l,freshN n c.2+1≤6*(entsT n c.2).length:=fun c hc=>by
    obtain⟨lo',hi',g1,g2,_⟩:=kids_each k1 c hc;exact fresh_good g1 g2
   have mf0453a:=trivial;exact q28a53e
theorem putL_len (key:List UInt8) (v:Tv):∀l:List (List UInt8×Tv),(putL key v l).length≤l.length+1
 | []=>by simp[putL]
 | c::r=>by
  have:=putL_len key v r;unfold putL
  split
  ·simp only[List.length_cons];omega
  ·split<;>simp
structure Pz where
 key:List UInt8
 size:Int
def Pz.ok (p:Pz):Prop:=p.key≠[]∧p.key.length≤16∧0≤p.size∧p.size≤400
def Pz.val (p:Pz):Tv:=⟨List.replicate p.size.toNat 0,[]⟩
inductive LaidR:List Pz→Nat→Tr→Prop
 | nil:LaidR [] 1 (.leaf 0 [])
 | put {l:List Pz} {m m':Nat} {t:Tr} {p:Pz}:LaidR l m t→p.ok→m'≤m+1→Whole m' (putW m t p.key p.val)→entsT m' (putW m t p.key p.val)=putL p.key p.val (entsT m t)→LaidR (l++[p]) m' (putW m t p.key p.val)
theorem LaidR.whole {l:List Pz} {m:Nat} {t:Tr} (h:LaidR l m t):Whole m t:=by
 cases h with
 | nil=>exact whole_empty
 | put _ _ _ h _=>exact h
theorem LaidR.bare {l:List Pz} {m:Nat} {t:Tr} (h:LaidR l m t):Bare t:=by
 induction h with
 | nil=>exact .leaf (by simp)
 | put _ _ _ _ _ ih=>exact bare_putW ih rfl
theorem LaidR.ents {l:List Pz} {m:Nat} {t:Tr} (h:LaidR l m t):(entsT m t).length≤l.length∧m≤l.length+1:=by
 induction h with
 | nil=>exact⟨by simp[entsT],by simp⟩
 | @put l m m' t p _ _ hm _ he ih=>
  rw[he];have:=putL_len p.key p.val (entsT m t);simp only[List.length_append,List.length_singleton];omega
theorem LaidR.fresh {l:List Pz} {m:Nat} {t:Tr} (h:LaidR l m t):freshN m t≤6*l.length:=by
 have:=fresh_whole h.whole;have:=h.ents.1;omega
theorem LaidR.more {l:List Pz} {m:Nat} {t:Tr} (h:LaidR l m t) {p:Pz} (hp:p.ok):∃m',m'≤m+1∧LaidR (l++[p]) m' (putW m t p.key p.val):=by
 obtain⟨m',h1,h2,h3⟩:=whole_put h.whole (key:=p.key) (v:=p.val) ⟨hp.1,hp.2.1⟩ ⟨by simp[Pz.val];have:=hp.2.2;omega,fun h=>absurd rfl h⟩;exact⟨m',h1,.put h hp h1 h2 h3⟩
open Go.RowKit
theorem seeL_ok:∀{l seen:List Int},l.Nodup→(∀p∈l,p∉seen)→seeL seen l=some (seen++l)
 | [],seen,_,_=>by simp[seeL]
 | p::r,seen,hn,hd=>by
  unfold seeL;rw[if_neg (hd p (by simp)),seeL_ok (List.nodup_cons.1 hn).2 (fun q hq hm=>?_)]
  ·simp
  ·rcases List.mem_append.1 hm with h|h
   ·exact hd q (List.mem_cons_of_mem _ hq) h
   ·rw[List.mem_singleton.1 h] at hq;exact(List.nodup_cons.1 hn).1 hq
def Spots (N:Nat) (s:List Int):Prop:=s.Nodup∧∀p∈s,pgC p=true∧p<N
theorem Spots.take {N:Nat} {s:List Int} (h:Spots N s) (k:Nat):Spots N (s.take k):=⟨h.1.sublist (List.take_sublist _ _),fun p hp=>h.2 p (List.mem_of_mem_take hp)⟩
theorem Spots.drop {N:Nat} {s:List Int} (h:Spots N s) (k:Nat):Spots N (s.drop k):=⟨h.1.sublist (List.drop_sublist _ _),fun p hp=>h.2 p (List.mem_of_mem_drop hp)⟩
theorem Spots.apart {N:Nat} {s:List Int} (h:Spots N s) (k:Nat) {p:Int} (hp:p∈s.drop k):p∉s.take k:=by
 have:=h.1;rw[←List.take_append_drop k s,List.nodup_append] at this;exact fun hq=>this.2.2 p hq p hp rfl
theorem Spots.apt {N:Nat} {s:List Int} (h:Spots N s):aptC s=true:=by
 rw[aptC,List.all_eq_true];intro i hi;have hi:=List.mem_range.1 hi;have e:atC s i=s[i]:=by simp[atC,hi]
 rw[e,Bool.and_eq_true];refine⟨(h.2 _ (List.getElem_mem hi)).1,?_⟩;have hm:s[i]∉s.take i:=h.apart i (by rw[List.drop_eq_getElem_cons hi];exact List.mem_cons_self);simpa using hm
def Stand (f:Nat→List UInt8) (W:List Wr):Prop:=∀x∈W,f x.1.toNat=x.2
theorem Stand.left {f:Nat→List UInt8} {A B:List Wr} (h:Stand f (A++B)):Stand f A:=fun x hx=>h x (List.mem_append_left _ hx)
theorem Stand.right {f:Nat→List UInt8} {A B:List Wr} (h:Stand f (A++B)):Stand f B:=fun x hx=>h x (List.mem_append_right _ hx)
theorem putLC_at {v:List UInt8} {at_:List Int} (hok:putOkC v at_=true) {i:Nat} (hi:i<at_.length):(putLC v at_)[i]? = some (pageC v at_ i):=by
 rw[putLC,hok,if_pos rfl];simp[hi]
theorem val_back {d:List Rg} {r N:Nat} {f:Nat→List UInt8} (hd:RegAt d r N f) {v:List UInt8} {s:List Int} (hs:Spots N s) (hn:needC v.length≠0) (hl:needC v.length≤s.length) (hw:Stand f ((s.take (needC v.length)).zip (putLC v (s.take (needC v.length))))) :
 getDC d r ((s.take (needC v.length)).headD 0) v.length=(v,s.take (needC v.length),0):=by
 obtain⟨at_,hat⟩:∃x,s.take (needC v.length)=x:=⟨_,rfl⟩
 have ha:Spots N at_:=by rw[←hat];exact hs.take _
 have hal:at_.length=needC v.length:=by rw[←hat,List.length_take];omega
 rw[hat] at hw ⊢;have hok:putOkC v at_=true:=by
  unfold putOkC;rw[ha.apt];simp[hn,hal]
 have h0:at_.headD 0=atC at_ 0:=by cases at_<;>simp[atC]
 rw[h0];refine gotC_back hok hd (fun i hi=>?_) (fun i hi=>?_)
 ·have e:atC at_ i=at_[i]:=by simp[atC,hi]
  rw[e];exact(ha.2 _ (List.getElem_mem hi)).2
 ·have e:atC at_ i=at_[i]:=by simp[atC,hi]
  have:=hw (at_[i],pageC v at_ i) (List.mem_of_getElem? (i:=i) (by
   rw[List.getElem?_zip_eq_some];exact⟨List.getElem?_eq_getElem hi,putLC_at hok hi⟩))
  rw[e];exact this
theorem layVs_cons {c:List UInt8×Tv} {r:List (List UInt8×Tv)} {s:List Int} (hc:c.2.pages=[]) :
 ∃e:List UInt8×Tv,e.1=c.1∧e.2.data=c.2.data∧(layVs (c::r) s).1=e::(layVs r (s.drop (needC c.2.data.length))).1∧(layVs (c::r) s).2.2=(layVs r (s.drop (needC c.2.data.length))).2.2 ∧
  ((needC c.2.data.length=0∧e=c∧(layVs (c::r) s).2.1=(layVs r (s.drop (needC c.2.data.length))).2.1)∨(needC c.2.data.length≠0∧e=(c.1,⟨c.2.data,s.take (needC c.2.data.length)⟩)∧(layVs (c::r) s).2.1=(s.take (needC c.2.data.length)).zip (putLC c.2.data (s.take (needC c.2.data.length)))++(layVs r (s.drop (needC c.2.data.length))).2.1)):=by
 by_cases h:needC c.2.data.length=0
 ·refine⟨c,rfl,rfl,?_,?_,.inl ⟨h,rfl,?_⟩⟩<;>(rw[h,List.drop_zero];conv=>lhs;rw[layVs,if_pos h])
 ·refine⟨(c.1,⟨c.2.data,s.take (needC c.2.data.length)⟩),rfl,rfl,?_,?_,.inr ⟨h,rfl,?_⟩⟩<;>(conv=>lhs;rw[layVs,if_neg h])
theorem vals_back {d:List Rg} {r N:Nat} {f:Nat→List UInt8} (hd:RegAt d r N f):∀{l:List (List UInt8×Tv)} {s seen:List Int},(∀c∈l,c.2.pages=[])→Spots N s→(l.map fun c=>needC c.2.data.length).sum≤s.length→Stand f (layVs l s).2.1→(∀p∈s.take (l.map fun c=>needC c.2.data.length).sum,p∉seen) →
 valsL d r seen ((layVs l s).1.map entV)=.ok (seen++s.take (l.map fun c=>needC c.2.data.length).sum,(layVs l s).1)
 | [],s,seen,_,_,_,_,_=>by simp[layVs,valsL]
 | c::r9,s,seen,hp,hs,hl,hw,hd9=>by
  have hc:=hp c (by simp);simp only[List.map_cons,List.sum_cons] at hl hd9 ⊢;obtain⟨e,e1,e2,h1,h2,h3⟩:=layVs_cons (r:=r9) (s:=s) hc;obtain⟨k,hk⟩:∃x,needC c.2.data.length=x:=⟨_,rfl⟩
  rw[hk] at h1 h2 h3 hl hd9 ⊢;rw[List.take_add] at hd9;have hsd:Spots N (s.drop k):=hs.drop k;have hwd:Stand f (layVs r9 (s.drop k)).2.1:=by
   rcases h3 with⟨_,_,h3⟩|⟨_,_,h3⟩
   ·rw[h3] at hw;exact hw
   ·rw[h3] at hw;exact hw.right
  have hv:valL d r seen (entV e).v=.ok (seen++s.take k,e.2):=by
   rcases h3 with⟨h0,rfl,_⟩|⟨h0,rfl,h3⟩
   ·unfold entV
    rw[if_pos hc,h0];unfold valL;simp;obtain⟨_,⟨_,_⟩⟩:=e;simp at hc;simp[hc]
   ·have hne:s.take k≠[]:=fun e=>by
     have h9:(s.take k).length=0:=by rw[e];rfl
     rw[List.length_take] at h9;omega
    unfold entV;rw[if_neg hne];unfold valL;rw[h3] at hw;have hb:=val_back hd hs (v:=c.2.data) (by rw[hk];exact h0) (by rw[hk];omega) (by rw[hk];exact hw.left);rw[hk] at hb;have hsee:=seeL_ok (hs.take k).1 (fun p hp=>hd9 p (List.mem_append_left _ hp));simp only[if_neg (show ¬(true=false) by decide),hb,ne_eq,not_true_eq_false,if_false,hsee]
  have ih:=vals_back hd (l:=r9) (s:=s.drop k) (seen:=seen++s.take k) (fun c hc=>hp c (List.mem_cons_of_mem _ hc)) hsd (by rw[List.length_drop];omega) hwd (fun p hp hm=>by
   rcases List.mem_append.1 hm with h|h
   ·exact hd9 p (List.mem_append_right _ hp) h
   ·exact hs.apart k (List.mem_of_mem_take hp) h)
  rw[h1,List.map_cons,valsL_ok hv,ih];have hek:(entV e).key=e.1:=by unfold entV;split<;>rfl
  rw[hek,List.append_assoc,List.take_add]
  rfl
theorem upN_of {leaf:Bool} {l:List En} (h:∀i (hi:i<l.length),mayN leaf i l[i]=true) (hr:(l.map fun e=>e.key).Pairwise (fun a b=>a<b)):upN leaf l l.length=true:=by
 rw[upN,List.all_eq_true];intro i hi;have hi:=List.mem_range.1 hi;unfold stepN;rw[List.getElem?_eq_getElem hi,Option.getD_some,h i hi,Bool.true_and];cases i with
 | zero=>simp
 | succ i=>
  have hlt:l[i].key<l[i+1].key:=by
   have:=List.pairwise_iff_getElem.1 hr i (i+1) (by simp;omega) (by simp;omega) (by omega);simpa using this
  rw[Nat.add_sub_cancel,List.getElem?_eq_getElem (by omega),Option.getD_some];unfold kle;rw[decide_eq_false (klt_asymm hlt)];have:¬l[i+1].key=l[i].key:=fun e=>by rw[e] at hlt;exact klt_irrefl _ hlt
  simp[this]
theorem keyB_of {k:List UInt8} (h:keyOk k):keyB k=true:=by
 unfold keyB;simp[h.1,h.2]
theorem lens_cons (c:List UInt8) (l:List (List UInt8)):lens (c::l)=c.length+lens l:=by simp[lens]
theorem layVs_facts {N:Nat}:∀{l:List (List UInt8×Tv)} {s:List Int},(∀c∈l,keyOk c.1∧c.2.data.length≤400∧c.2.pages=[])→Spots N s→(l.map fun c=>needC c.2.data.length).sum≤s.length →
 ((layVs l s).1.map entV).map (fun e=>e.key)=keysOf l∧(∀e∈(layVs l s).1.map entV,mayL e=true)∧((layVs l s).1.map entV).length=l.length∧((l.length+lens (cellsN true ((layVs l s).1.map entV)):Nat):Int)=sumI (sizesT (.leaf 0 l))
 | [],s,_,_,_=>by simp[layVs,keysOf,cellsN,lens,sizesT,sumI]
 | c::r9,s,hp,hs,hl=>by
  have hc:=hp c (by simp);simp only[List.map_cons,List.sum_cons] at hl;obtain⟨e,e1,e2,h1,h2,h3⟩:=layVs_cons (r:=r9) (s:=s) hc.2.2;obtain⟨i1,i2,i3,i4⟩:=layVs_facts (l:=r9) (s:=s.drop (needC c.2.data.length)) (fun c hc=>hp c (List.mem_cons_of_mem _ hc)) (hs.drop _) (by rw[List.length_drop];omega);have hkb:=keyB_of hc.1;have hk16:=hc.1.2;have hd4:=hc.2.1;have hent:(entV e).key=c.1∧mayL (entV e)=true∧(cellN true (entV e)).length+1=3+vSz c.2+c.1.length:=by
   rcases h3 with⟨h0,rfl,_⟩|⟨h0,rfl,_⟩
   ·have h16:e.2.data.length≤16:=by
     unfold needC at h0
     split at h0
     ·omega
     ·omega
    unfold entV;rw[if_pos hc.2.2];refine⟨rfl,?_,?_⟩
    ·unfold mayL
     simp[hkb,h16]
    ·unfold cellN
     rw[List.length_append,textF_length,encV_length];unfold vSz;rw[if_pos h16];simp;omega
   ·have hpos:=needC_pos h0
    have hne:s.take (needC c.2.data.length)≠[]:=fun e=>by
     have h9:(s.take (needC c.2.data.length)).length=0:=by rw[e];rfl
     rw[List.length_take] at h9;omega
    have hpg:pgC ((s.take (needC c.2.data.length)).headD 0)=true:=by
     cases hq:s.take (needC c.2.data.length) with
     | nil=>exact absurd hq hne
     | cons x y=>exact((hs.take _).2 x (by rw[hq];simp)).1
    unfold entV;rw[if_neg hne];refine⟨rfl,?_,?_⟩
    ·unfold mayL
     have hpb:pageB ((s.take (needC c.2.data.length)).headD 0)=true:=hpg;simp only[if_true,hkb,hpb,Bool.true_and,Bool.and_true];simp;omega
    ·have hvs:vSz c.2=4:=by unfold vSz;exact if_neg (fun h=>by omega)
     unfold cellN;rw[List.length_append,textF_length,encV_length,hvs,Nat.min_eq_left (by show c.1.length≤255;omega),if_pos rfl,if_pos rfl];show c.1.length+1+5+1=_;omega
  rw[h1];refine⟨by simp only[List.map_cons,keysOf,hent.1] at i1 ⊢;rw[i1],fun x hx=>?_,by simpa using i3,?_⟩
  ·rcases List.mem_cons.1 hx with rfl|hx
   ·exact hent.2.1
   ·exact i2 x hx
  ·have h5:=hent.2.2
   simp only[List.map_cons,cellsN,lens_cons,sizesT,sumI_cons,List.length_cons] at i4 ⊢;have i5:(List.map (cellN true) (List.map entV (layVs r9 (List.drop (needC ↑c.snd.data.length) s)).fst))=cellsN true (List.map entV (layVs r9 (List.drop (needC ↑c.snd.data.length) s)).fst):=rfl;rw[i5] at i4 ⊢;omega
theorem leaf_nodeB {N:Nat} {lo hi:List UInt8} {l:List (List UInt8×Tv)} {s:List Int} (h:LeafOk lo hi l) (hp:∀c∈l,c.2.pages=[]) (hs:Spots N s) (hl:(l.map fun c=>needC c.2.data.length).sum≤s.length) (hne:l≠[]) (hsum:sumI (sizesT (.leaf 0 l))≤122):nodeB true ((layVs l s).1.map entV)=true:=by
 obtain⟨i1,i2,i3,i4⟩:=layVs_facts (fun c hc=>⟨(h.2 c hc).1,(h.2 c hc).2.2.2.1,hp c hc⟩) hs hl;unfold nodeB;rw[upN_of (fun i hi=>by
  show mayL _=true;exact i2 _ (List.getElem_mem hi)) (by rw[i1];exact h.1),Bool.true_and,Bool.and_eq_true,decide_eq_true_eq,decide_eq_true_eq,i3]
 have:=List.length_pos_iff.2 hne;exact⟨by show 1≤_;omega,by omega⟩
open Go.RowKit
def Fits (n:Nat) (t:Tr):Prop:=(∃lo hi,Shape n lo hi t)∧Bare t∧sumT t≤122∧freshN n t≠0∧∀p l,t=.node p l→2≤l.length
theorem fits_kid {n:Nat} {t:Tr} {lo hi:List UInt8} (h:Shape n lo hi t) (hb:Bare t) (h30:30≤sumT t) (h1:sumT t≤122):Fits n t:=by
 refine⟨⟨lo,hi,h⟩,hb,h1,?_,fun p l e=>?_⟩
 ·cases n with
  | zero=>exact h.elim
  | succ n=>
   cases t with
   | leaf p l=>
    have hne:l≠[]:=fun e=>by subst e;simp[sumT,sizesT,sumI] at h30
    rw[freshN,if_neg hne];omega
   | node p l=>rw[freshN];omega
 ·subst e
  cases n with
  | zero=>exact h.elim
  | succ n=>
   obtain⟨g1,g2⟩:=h;have hne:=List.length_pos_iff.2 (kids_ne g1);have:l.length≠1:=fun e=>by rw[sumI_kids l p e g2] at h30;omega
   omega
theorem fits_kids {n:Nat} {p:Int} {l:List (List UInt8×Tr)} (h:Fits (n+1) (.node p l)):∀c∈l,Fits n c.2:=fun c hc=>by
 obtain⟨⟨lo,hi,h1,_⟩,hb,_⟩:=h;obtain⟨lo',hi',g1,g2,g3⟩:=kids_each h1 c hc;exact fits_kid g1 ((bare_kids hb).2 c hc) g2 g3
theorem layT_page {N n:Nat} {t:Tr} {s:List Int} (h:Fits n t) (hs:Spots N s) (hl:freshN n t≤s.length):∃p,(layT n t s).1.page=p∧p∈s.take (freshN n t)∧pgC p=true∧p<N:=by
 obtain⟨⟨lo,hi,h1⟩,_,_,h0,_⟩:=h;have hin:∀k,k<freshN n t→(s.drop k).headD 0∈s.take (freshN n t):=fun k hk=>by
  have e:s.drop k=s[k]'(by omega)::s.drop (k+1):=List.drop_eq_getElem_cons (by omega);rw[e];show s[k]'(by omega)∈_;refine List.mem_of_getElem? (i:=k) ?_;rw[List.getElem?_take_of_lt hk];exact List.getElem?_eq_getElem _
 have hall:∀k,k<freshN n t→∃p,(s.drop k).headD 0=p∧p∈s.take (freshN n t)∧pgC p=true∧p<N:=fun k hk=>
  ⟨_,rfl,hin k hk,hs.2 _ (List.mem_of_mem_take (hin k hk))⟩
 cases n with
 | zero=>exact h1.elim
 | succ n=>
  cases t with
  | leaf p l=>
   have hne:l≠[]:=fun e=>by rw[freshN,if_pos e] at h0;exact h0 rfl
   rw[layT,if_neg hne];show ∃p,(layVs l s).2.2.headD 0=p∧_;rw[layVs_left];exact hall _ (by rw[freshN,if_neg hne];omega)
  | node p l=>
   rw[layT];show ∃p,(layKs (layT n) l s).2.2.headD 0=p∧_;rw[layKs_left (fun t s=>layT_left n t s)];exact hall _ (by rw[freshN];omega)
theorem layKs_cons {f:Tr→List Int→Tr×List Wr×List Int} {c:List UInt8×Tr} {r:List (List UInt8×Tr)} {s:List Int} :
 layKs f (c::r) s=((c.1,(f c.2 s).1)::(layKs f r (f c.2 s).2.2).1,(f c.2 s).2.1++(layKs f r (f c.2 s).2.2).2.1,(layKs f r (f c.2 s).2.2).2.2):=by
 rw[layKs]
theorem layKs_facts {N n:Nat}:∀{l:List (List UInt8×Tr)} {s:List Int},(∀c∈l,c.1.length≤16∧Fits n c.2)→Spots N s→(l.map fun c=>freshN n c.2).sum≤s.length →
 ((layKs (layT n) l s).1.map entK).map (fun e=>e.key)=keysOf l∧(∀e∈(layKs (layT n) l s).1.map entK,pageB e.v.page=true∧e.v=⟨[],false,0,e.v.page⟩)∧((layKs (layT n) l s).1.map entK).length=l.length∧((l.length+lens (cellsN false ((layKs (layT n) l s).1.map entK)):Nat):Int)=sumI (sizesT (.node 0 l))
 | [],s,_,_,_=>by simp[layKs,keysOf,cellsN,lens,sizesT,sumI]
 | c::r9,s,hp,hs,hl=>by
  have hc:=hp c (by simp);simp only[List.map_cons,List.sum_cons] at hl;have hlf:(layT n c.2 s).2.2=s.drop (freshN n c.2):=layT_left n c.2 s;obtain⟨p,e1,e2,e3,e4⟩:=layT_page hc.2 hs (by omega);obtain⟨i1,i2,i3,i4⟩:=layKs_facts (l:=r9) (s:=s.drop (freshN n c.2)) (fun c hc=>hp c (List.mem_cons_of_mem _ hc)) (hs.drop _) (by rw[List.length_drop];omega);rw[layKs_cons,hlf];refine⟨?_,fun x hx=>?_,by simpa using i3,?_⟩
  ·simp only[List.map_cons,keysOf] at i1 ⊢
   rw[i1];rfl
  ·simp only[List.map_cons] at hx
   rcases List.mem_cons.1 hx with rfl|hx
   ·refine⟨?_,rfl⟩
    show pageB (layT n c.2 s).1.page=true;rw[e1];exact e3
   ·exact i2 x hx
  ·have h5:(cellN false (entK (c.1,(layT n c.2 s).1))).length+1=4+c.1.length:=by
    unfold cellN;have:=hc.1;rw[List.length_append,textF_length,encV_length,Nat.min_eq_left (by show c.1.length≤255;omega),if_neg (by decide)];show c.1.length+1+2+1=_;omega
   simp only[List.map_cons,cellsN,lens_cons,sizesT,sumI_cons,List.length_cons] at i4 ⊢;have i5:(List.map (cellN false) (List.map entK (layKs (layT n) r9 (List.drop (freshN n c.snd) s)).fst))=cellsN false (List.map entK (layKs (layT n) r9 (List.drop (freshN n c.snd) s)).fst):=rfl;rw[i5] at i4 ⊢;omega
theorem nil_lt {k:List UInt8} (h:k≠[]):([]:List UInt8)<k:=by
 cases k with
 | nil=>exact absurd rfl h
 | cons x y=>exact List.Lex.nil
theorem node_nodeB {N n:Nat} {l:List (List UInt8×Tr)} {s:List Int} {p:Int} (h:Fits (n+1) (.node p l)) (hs:Spots N s) (hl:(l.map fun c=>freshN n c.2).sum≤s.length):nodeB false ((layKs (layT n) l s).1.map entK)=true:=by
 have hks:=fits_kids h;obtain⟨⟨lo,hi,h1,hk0⟩,hb,hsum,_,h2⟩:=h;have hlen:=h2 p l rfl;obtain⟨c,r9,rfl⟩:∃c r,l=c::r:=by
  cases l with
  | nil=>simp at hlen
  | cons c r=>exact⟨c,r,rfl⟩
 have hc1:c.1=[]:=hk0;obtain⟨k1,k2⟩:=kids_all h1;have hkeys:(keysOf (c::r9)).Pairwise (fun a b=>a<b):=by
  unfold keysOf;rw[List.map_cons,List.pairwise_cons];refine⟨fun x hx=>?_,k1⟩;obtain⟨d,hd,rfl⟩:=List.mem_map.1 hx;rw[hc1];exact nil_lt (k2 d hd).1.1
 obtain⟨i1,i2,i3,i4⟩:=layKs_facts (n:=n) (N:=N) (l:=c::r9) (s:=s) (fun d hd=>⟨by
  rcases List.mem_cons.1 hd with rfl|hd
  ·rw[hc1];simp
  ·exact(k2 d hd).1.2,hks d hd⟩) hs hl
 obtain⟨es,hes⟩:∃x,(layKs (layT n) (c::r9) s).1.map entK=x:=⟨_,rfl⟩
 rw[hes] at i1 i2 i3 i4 ⊢;unfold nodeB;rw[upN_of (fun i hi=>by
  have hm:=i2 _ (List.getElem_mem hi);have hkey:es[i].key=(keysOf (c::r9))[i]'(by rw[←i1];simpa using hi):=by
   have:∀(L:List (List UInt8)) (e:es.map (fun e=>e.key)=L) (hi2:i<L.length),es[i].key=L[i]:=fun L e hi2=>by subst e;simp
   exact this _ i1 _
  show mayB i es[i]=true;unfold mayB;rw[hm.1];have hv:(es[i].v == ⟨[],false,0,es[i].v.page⟩)=true:=by
   rw[beq_iff_eq];exact hm.2
  rw[hv];simp only[Bool.and_true];unfold firstB;rw[hkey];cases i with
  | zero=>rw[if_pos rfl];simp[keysOf,hc1]
  | succ i=>
   rw[if_neg (by omega)];have hi2:i<r9.length:=by rw[i3] at hi;simpa using hi
   have:(keysOf (c::r9))[i+1]'(by simp[keysOf];exact hi2)=(r9[i]'hi2).1:=by simp[keysOf]
   rw[this];exact keyB_of (k2 _ (List.getElem_mem hi2)).1) (by rw[i1];exact hkeys),Bool.true_and,Bool.and_eq_true,decide_eq_true_eq,decide_eq_true_eq,i3]
 have hsum':sumI (sizesT (.node 0 (c::r9)))≤122:=hsum;exact⟨by show 2≤_;exact hlen,by omega⟩
theorem kids_back {N n:Nat} {f:Nat→List UInt8} {F:List Int→Int→Except Int (List Int×Tr)} {Q:Tr→Prop}
 (IH:∀t,Q t→∀s seen,Spots N s→freshN n t≤s.length→Stand f (layT n t s).2.1→(∀p∈s.take (freshN n t),p∉seen)→∃seen',F seen (layT n t s).1.page=.ok (seen',(layT n t s).1)∧∀p∈seen',p∈seen∨p∈s.take (freshN n t)) :
 ∀{l:List (List UInt8×Tr)} {s seen:List Int},(∀c∈l,Q c.2)→Spots N s→(l.map fun c=>freshN n c.2).sum≤s.length→Stand f (layKs (layT n) l s).2.1→(∀p∈s.take (l.map fun c=>freshN n c.2).sum,p∉seen) →
 ∃seen',kidsL F seen ((layKs (layT n) l s).1.map entK)=.ok (seen',(layKs (layT n) l s).1)∧∀p∈seen',p∈seen∨p∈s.take (l.map fun c=>freshN n c.2).sum
 | [],s,seen,_,_,_,_,_=>⟨seen,by simp[layKs,kidsL],fun p hp=>.inl hp⟩
 | c::r9,s,seen,hQ,hs,hl,hw,hd=>by
  simp only[List.map_cons,List.sum_cons] at hl hd ⊢;rw[List.take_add] at hd ⊢;rw[layKs_cons] at hw ⊢;have hlf:(layT n c.2 s).2.2=s.drop (freshN n c.2):=layT_left n c.2 s;rw[hlf] at hw ⊢;obtain⟨s1,g1,g2⟩:=IH c.2 (hQ c (by simp)) s seen hs (by omega) hw.left (fun p hp=>hd p (List.mem_append_left _ hp));obtain⟨s2,g3,g4⟩:=kids_back IH (l:=r9) (s:=s.drop (freshN n c.2)) (seen:=s1) (fun c hc=>hQ c (List.mem_cons_of_mem _ hc)) (hs.drop _) (by rw[List.length_drop];omega) hw.right (fun p hp hm=>by
   rcases g2 p hm with h|h
   ·exact hd p (List.mem_append_right _ hp) h
   ·exact hs.apart _ (List.mem_of_mem_take hp) h)
  refine⟨s2,?_,fun p hp=>?_⟩
  ·rw[List.map_cons,kidsL_ok (e:=entK (c.1,(layT n c.2 s).1)) g1,g3]
   rfl
  ·rcases g4 p hp with h|h
   ·rcases g2 p h with h|h
    ·exact .inl h
    ·exact .inr (List.mem_append_left _ h)
   ·exact .inr (List.mem_append_right _ h)
theorem load_back {d:List Rg} {r N:Nat} {f:Nat→List UInt8} (hd:RegAt d r N f):∀(n m:Nat),n≤m→∀t,Fits n t→∀s seen,Spots N s→freshN n t≤s.length→Stand f (layT n t s).2.1→(∀p∈s.take (freshN n t),p∉seen) →
 ∃seen',loadT d r m seen (layT n t s).1.page=.ok (seen',(layT n t s).1)∧∀p∈seen',p∈seen∨p∈s.take (freshN n t)
 | 0,_,_,t,h,_,_,_,_,_,_=>by obtain⟨⟨_,_,h1⟩,_⟩:=h;exact h1.elim
 | n+1,0,hm,_,_,_,_,_,_,_,_=>by omega
 | n+1,m+1,hm,t,h,s,seen,hs,hl,hw,hsn=>by
  obtain⟨p0,e0,hp0,hpg,hpN⟩:=layT_page h hs hl;have hp2:=pgC_lt hpg;have hpd:pagedE d r p0=0:=by rw[hd.paged,if_pos ⟨by omega,hpN⟩]
  have hrd:readB d r p0=f p0.toNat:=hd.read ⟨by omega,hpN⟩;have hns:=hsn p0 hp0;rw[e0];cases t with
  | leaf p l=>
   obtain⟨⟨lo,hi,hn0,hlo⟩,hb,hsum,h0,_⟩:=h;have hne:l≠[]:=fun e=>by rw[freshN,if_pos e] at h0;exact h0 rfl
   obtain⟨_,hbv⟩:=bare_vals hb;rw[freshN,if_neg hne] at hl hsn ⊢;rw[layT,if_neg hne] at e0 hw ⊢;have e0':(layVs l s).2.2.headD 0=p0:=e0;rw[e0'] at hw ⊢;have hnb:=leaf_nodeB hlo hbv hs (by omega) hne hsum;have hpage:f p0.toNat=putN true ((layVs l s).1.map entV):=hw.right (p0,_) (List.mem_singleton.2 rfl);obtain⟨q1,q2,q3⟩:=get_putN hnb;have hbk:=vals_back hd (s:=s) (seen:=seen++[p0]) hbv hs (by omega) hw.left (fun q hq hm9=>by
    rcases List.mem_append.1 hm9 with h|h
    ·exact hsn q (by rw[Nat.add_comm,List.take_add];exact List.mem_append_left _ hq) h
    ·rw[List.mem_singleton.1 h] at hq
     have hdr:p0∈s.drop (l.map fun c=>needC c.2.data.length).sum:=by
      rw[←e0',layVs_left,List.drop_eq_getElem_cons (show(l.map fun c=>needC c.2.data.length).sum<s.length by omega)];exact List.mem_cons_self
     exact hs.apart _ hdr hq)
   refine⟨_,by
    unfold loadT;rw[if_neg hns,if_neg (by rw[hpd];decide),hrd,hpage,if_neg (by rw[q1];decide),q3,if_pos rfl,q2,hbk],fun q hq=>?_⟩
   rcases List.mem_append.1 hq with h|h
   ·rcases List.mem_append.1 h with h|h
    ·exact .inl h
    ·rw[List.mem_singleton.1 h]
     rw[freshN,if_neg hne] at hp0;exact .inr hp0
   ·exact .inr (by rw[Nat.add_comm,List.take_add];exact List.mem_append_left _ h)
  | node p l=>
   have hks:=fits_kids h;rw[freshN] at hl hsn hp0 ⊢;rw[layT] at e0 hw ⊢;have e0':(layKs (layT n) l s).2.2.headD 0=p0:=e0;rw[e0'] at hw ⊢;have hnb:=node_nodeB h hs (by omega);have hpage:f p0.toNat=putN false ((layKs (layT n) l s).1.map entK):=hw.right (p0,_) (List.mem_singleton.2 rfl);obtain⟨q1,q2,q3⟩:=get_putN hnb;obtain⟨s2,g1,g2⟩:=kids_back (n:=n) (F:=loadT d r m) (Q:=Fits n) (fun t hQ s seen h1 h2 h3 h4=>load_back hd n m (by omega) t hQ s seen h1 h2 h3 h4) (l:=l) (s:=s) (seen:=seen++[p0]) hks hs (by omega) hw.left (fun q hq hm9=>by
    rcases List.mem_append.1 hm9 with h|h
    ·exact hsn q (by rw[Nat.add_comm,List.take_add];exact List.mem_append_left _ hq) h
    ·rw[List.mem_singleton.1 h] at hq
     have hdr:p0∈s.drop (l.map fun c=>freshN n c.2).sum:=by
      rw[←e0',layKs_left (fun t s=>layT_left n t s),List.drop_eq_getElem_cons (show(l.map fun c=>freshN n c.2).sum<s.length by omega)];exact List.mem_cons_self
     exact hs.apart _ hdr hq)
   refine⟨s2,by
    unfold loadT;rw[if_neg hns,if_neg (by rw[hpd];decide),hrd,hpage,if_neg (by rw[q1];decide),q3,if_neg (by decide),q2,g1],fun q hq=>?_⟩
   rcases g2 q hq with h|h
   ·rcases List.mem_append.1 h with h|h
    ·exact .inl h
    ·rw[List.mem_singleton.1 h]
     exact .inr hp0
   ·exact .inr (by rw[Nat.add_comm,List.take_add];exact List.mem_append_left _ h)
open Go.RowKit
def ValPost (T:Nat) (w:World) (lb mb da M:Nat) (d:List Rg) (r:Int) (R:Except Int (List Int×Tv)) (e:Ending) (w':World):Prop:=
 Only [mb] w w'∧match R with
  | .ok (s,x)=>∃v,e=.returned (.agg #[.string (strOf x.data),v])∧TvOn (fun b=>w.heap.size≤b) w' [.string (strOf x.data),v] x∧LdIn T w' lb mb da M d r s
  | .error x=>e=.panicked (errP x)
theorem row_at {k:IntKind} {w w':World} {a:Option Addr} {len cap:Nat} {l:List Int} (h:Row k w a len cap l) (hs:w.heap.size≤w'.heap.size) (hne:∀x,a=some x→w'.heap[x.block]? = w.heap[x.block]?):Row k w' a len cap l:=by
 obtain⟨h1,h2,h3,h4,h5⟩:=h;refine⟨h1,h2,h3,h4,h5.imp id ?_⟩;rintro⟨b,off,rfl,hb,hc⟩;exact⟨b,off,rfl,by omega,fun i hi=>(show w'.cell? ⟨b,off+i,none⟩=w.cell? ⟨b,off+i,none⟩ from World.cell?_of_block (hne ⟨b,off,none⟩ rfl)).trans (hc i hi)⟩
theorem below_only {w w1 w2:World} {mb:Nat} (h:Below w.heap.size w w1) (k:Only [mb] w1 w2):Only [mb] w w2:=(Only.of_below h).trans k
theorem value_any {T:Nat} {w:World} {lb mb da M:Nat} {d:List Rg} {r:Int} {seen:List Int} (h:LdIn T w lb mb da M d r seen) (hT:T≤w.heap.size) (hl:seen.length≤1000) (v:Vv) (hp:I64 v.page) :
 Calls Tryz.prog 97 #[.pointer (some ⟨lb,0,none⟩),.agg #[.string (strOf v.data),.bool v.far,.int .i64 v.size,.int .i64 v.page]] w (ValPost T w lb mb da M d r (valL d r seen v)):=by
 obtain⟨vd,vf,vs,vp⟩:=v;obtain⟨w1,hw1⟩:∃w1,(w.alloc (.cells #[.string (strOf vd),.bool vf,.int .i64 vs,.int .i64 vp] 209)).alloc (.cells #[.string ⟨#[]⟩,.slice none 0 0] 101)=w1:=⟨_,rfl⟩
 have hx1:Boxes w1 [(w.heap.size+1,[.string ⟨#[]⟩,.slice none 0 0]),(w.heap.size,[.string (strOf vd),.bool vf,.int .i64 vs,.int .i64 vp])]:=by
  rw[←hw1];exact((Boxes.nil w).alloc #[.string (strOf vd),.bool vf,.int .i64 vs,.int .i64 vp] 209 (b:=w.heap.size) rfl).alloc #[.string ⟨#[]⟩,.slice none 0 0] 101 (b:=w.heap.size+1) (by simp)
 have hb1:Below w.heap.size w w1:=by rw[←hw1];exact Below.al (Below.al (Below.refl _ _))
 have hd1:=h.below hT hb1;have hmb:=h.lt.2;have hlb:=h.lt.1;cases vf with
 | false=>
  have m78d0a4:=trivial;exact q720e2e
 | true=>
  obtain⟨c0,c1,_⟩:=hd1.cell;have hlt1:=hd1.lt.1;have hx0:=hx1.lt 1 rfl;have o2:=hx1.cell 1 2 rfl rfl;have o3:=hx1.cell 1 3 rfl rfl;have v1:=hx1.cell 1 1 rfl rfl;have cA:∀W,Below w1.heap.size w1 W→W.cell? ⟨lb,0,none⟩=some (.pointer (some ⟨da,0,none⟩)):=fun W hW=>(hW.cell (p:=⟨lb,0,none⟩) hlt1).trans c0
  have cB:∀W,Below w1.heap.size w1 W→W.cell? ⟨lb,1,none⟩=some (.int .i64 r):=fun W hW=>(hW.cell (p:=⟨lb,1,none⟩) hlt1).trans c1
  have m258c8b:=trivial;exact qe36c20
open Go.RowKit
theorem info_sK:RowInfo Tryz.prog 9 1 16:=row_info (by kernel_rfl)
theorem info_vK:RowInfo Tryz.prog 101 2 40:=row_info (by kernel_rfl)
theorem info_nK:RowInfo Tryz.prog 50 5 88:=row_info (by kernel_rfl)
open Go.RowKit
structure LMid (T:Nat) (w wB:World) (lb mb da M:Nat) (d:List Rg) (r:Int) (seen:List Int) (ob rb B m:Nat) (p:Int) (lf:Bool) (v1 v2 v3:Value) (K:List (List UInt8)) (V:List Tv) (C:List Tr) (wr:World):Prop where
 box:Boxes wr [(ob,[.int .i64 p,.bool lf,v1,v2,v3]),(rb,zero5.toList)]
 rows:NodeRows 9 101 50 (fun _=>False) m B wr v1 v2 v3 K V C
 ld:LdIn T wr lb mb da M d r seen
 ag:AgreeF (fun x=>x<B∧x≠mb∧x≠ob) wB wr
 ol:Only [mb] w wr
 tw:T≤w.heap.size
 tr:w.heap.size≤rb
 ro:rb<ob
 ob_:ob<B
 bb:B≤wB.heap.size
section
variable {T:Nat} {w wB wr w':World} {lb mb da M:Nat} {d:List Rg} {r:Int} {seen s2:List Int} {ob rb B m:Nat} {p:Int} {lf:Bool} {v1 v2 v3:Value} {K:List (List UInt8)} {V:List Tv} {C:List Tr}
theorem only_past {w w1 w2:World} {mb N:Nat} (h:Only [mb] w w1) (hN:w.heap.size≤N) (hb:Below N w1 w2):Only [mb] w w2:=
 ⟨hb.os.trans h.1,hb.tape.trans h.2.1,hb.output.trans h.2.2.1,Nat.le_trans h.size hb.size,fun k hk hS=>(hb.block k (by omega)).trans (h.block hk hS)⟩
theorem LMid.lt (h:LMid T w wB lb mb da M d r seen ob rb B m p lf v1 v2 v3 K V C wr):ob<wr.heap.size∧B≤wr.heap.size:=⟨h.box.lt 0 rfl,Nat.le_trans h.bb h.ag.1⟩
theorem LMid.below (h:LMid T w wB lb mb da M d r seen ob rb B m p lf v1 v2 v3 K V C wr) (hb:Below wr.heap.size wr w'):LMid T w wB lb mb da M d r seen ob rb B m p lf v1 v2 v3 K V C w' where
 box:=h.box.step hb
 rows:=h.rows.below hb
 ld:=h.ld.past (hb.mono (by have:=h.lt;have:=h.tw;have:=h.tr;have:=h.ro;have:=h.ob_;omega))
 ag:=h.ag.trans (AgreeF.of_below hb)
 ol:=only_past h.ol h.ol.size hb
 tw:=h.tw
 tr:=h.tr
 ro:=h.ro
 ob_:=h.ob_
 bb:=h.bb
theorem LMid.turn (h:LMid T w wB lb mb da M d r seen ob rb B m p lf v1 v2 v3 K V C wr) (ho:Only [mb] wr w') (hl:LdIn T w' lb mb da M d r s2):LMid T w wB lb mb da M d r s2 ob rb B m p lf v1 v2 v3 K V C w' where
 box:=h.box.only ho (by have:=h.ld.tm;have:=h.tw;have:=h.tr;have:=h.ro;intro q hq;simp at hq;rcases hq with rfl|rfl<;>simp<;>omega)
 rows:=h.rows.agree ⟨ho.size,fun b hb hlt=>ho.block hlt (by have:=h.ld.tm;have:=h.tw;have:=h.tr;have:=h.ro;have:=h.ob_;rcases hb with hb|hb;exact hb.elim;simp;omega)⟩
 ld:=hl
 ag:=h.ag.trans ⟨ho.size,fun b hb hlt=>ho.block hlt (by simp;exact hb.2.1)⟩
 ol:=h.ol.trans ho
 tw:=h.tw
 tr:=h.tr
 ro:=h.ro
 ob_:=h.ob_
 bb:=h.bb
theorem LMid.pushK (h:LMid T w wB lb mb da M d r seen ob rb B m p lf v1 v2 v3 K V C wr) (hl:K.length≤1000) (key:List UInt8) :
 ∃a c w',(Builtin.append_ #[46,46] 46 #[v1,.slice (some ⟨wr.heap.size,0,none⟩) 1 1]).run Tryz.prog (wr.alloc (.cells #[.string (strOf key)] 9))=.ok (.slice a (K.length+1) c) w'∧AgreeF (fun x=>v1.ownBlock≠some x∧x≠ob) wr w' ∧
  w'.cell? ⟨ob,2,none⟩=some v1∧w'.frozen? ⟨ob,2,none⟩=false ∧
  AgreeF (fun x=>v1.ownBlock≠some x∧x≠ob) wr (w'.setCell ⟨ob,2,none⟩ (.slice a (K.length+1) c))∧LMid T w wB lb mb da M d r seen ob rb B m p lf (.slice a (K.length+1) c) v2 v3 (K++[key]) V C (w'.setCell ⟨ob,2,none⟩ (.slice a (K.length+1) c)):=by
 have hlt:=h.lt;have htw:=h.tw;have htr:=h.tr;have hro:=h.ro;have hob:=h.ob_;have htm:=h.ld.tm;have hbb:=h.bb;have hr:=h.rows;obtain⟨v',w',hrun,hg,ht,hn⟩:=hr.pushK (P:=Tryz.prog) Tryz.underlying46 info_sK (by decide) (by omega) (by omega) key;obtain⟨a,c,_,_,_,_,rfl,_,_⟩:=hn.sl;rw[List.length_append] at *;have hag:AgreeF (fun x=>v1.ownBlock≠some x∧x≠ob) wr w':=⟨hg.size,fun x hx hlt=>hg.block x hlt (fun e=>hx.1 e.symm)⟩
 have hge:∀g,v1.ownBlock=some g→B≤g:=fun g hg=>(hr.k.lt hg).1
 have m3aeb28:=trivial;exact qd418b0
theorem LMid.pushV (h:LMid T w wB lb mb da M d r seen ob rb B m p lf v1 v2 v3 K V C wr) (hl:V.length≤1000) {e0 e1:Value} {tv:Tv} (hy:TvOn (G3 (fun _=>False) B v1 v2 v3) wr [e0,e1] tv) :
 ∃a c w',(Builtin.append_ #[47,47] 47 #[v2,.slice (some ⟨wr.heap.size,0,none⟩) 1 1]).run Tryz.prog (wr.alloc (.cells #[e0,e1] 101))=.ok (.slice a (V.length+1) c) w'∧AgreeF (fun x=>v2.ownBlock≠some x∧x≠ob) wr w' ∧
  w'.cell? ⟨ob,3,none⟩=some v2∧w'.frozen? ⟨ob,3,none⟩=false ∧
  AgreeF (fun x=>v2.ownBlock≠some x∧x≠ob) wr (w'.setCell ⟨ob,3,none⟩ (.slice a (V.length+1) c))∧LMid T w wB lb mb da M d r seen ob rb B m p lf v1 (.slice a (V.length+1) c) v3 K (V++[tv]) C (w'.setCell ⟨ob,3,none⟩ (.slice a (V.length+1) c)):=by
 have hlt:=h.lt;have htw:=h.tw;have htr:=h.tr;have hro:=h.ro;have hob:=h.ob_;have htm:=h.ld.tm;have hbb:=h.bb;have hr:=h.rows;obtain⟨v',w',hrun,hg,ht,hn⟩:=hr.pushV (P:=Tryz.prog) Tryz.underlying47 info_vK (by decide) (by omega) (by omega) hy;obtain⟨_,_,a,c,_,_,_,rfl,_⟩:=hn.sl;rw[List.length_append] at *;have hag:AgreeF (fun x=>v2.ownBlock≠some x∧x≠ob) wr w':=⟨hg.size,fun x hx hlt=>hg.block x hlt (fun e=>hx.1 e.symm)⟩
 have hge:∀g,v2.ownBlock=some g→B≤g:=fun g hg=>(hr.v.lt hg).1
 have m691b55:=trivial;exact qd418b0
theorem LMid.pushC (h:LMid T w wB lb mb da M d r seen ob rb B m p lf v1 v2 v3 K V C wr) (hl:C.length≤1000) {x0 x1 x2 x3 x4:Value} {kid:Tr} (hy:NodeOn (G3 (fun _=>False) B v1 v2 v3) m wr [x0,x1,x2,x3,x4] kid) :
 ∃a c w',(Builtin.append_ #[48,48] 48 #[v3,.slice (some ⟨wr.heap.size,0,none⟩) 1 1]).run Tryz.prog (wr.alloc (.cells #[x0,x1,x2,x3,x4] 50))=.ok (.slice a (C.length+1) c) w'∧AgreeF (fun x=>v3.ownBlock≠some x∧x≠ob) wr w' ∧
  w'.cell? ⟨ob,4,none⟩=some v3∧w'.frozen? ⟨ob,4,none⟩=false ∧
  AgreeF (fun x=>v3.ownBlock≠some x∧x≠ob) wr (w'.setCell ⟨ob,4,none⟩ (.slice a (C.length+1) c))∧LMid T w wB lb mb da M d r seen ob rb B m p lf v1 v2 (.slice a (C.length+1) c) K V (C++[kid]) (w'.setCell ⟨ob,4,none⟩ (.slice a (C.length+1) c)):=by
 have hlt:=h.lt;have htw:=h.tw;have htr:=h.tr;have hro:=h.ro;have hob:=h.ob_;have htm:=h.ld.tm;have hbb:=h.bb;have hr:=h.rows;obtain⟨v',w',hrun,hg,ht,hn⟩:=hr.pushC (P:=Tryz.prog) Tryz.underlying48 info_nK (by decide) (by omega) (by omega) hy;obtain⟨_,_,_,_,a,c,_,_,rfl⟩:=hn.sl;rw[List.length_append] at *;have hag:AgreeF (fun x=>v3.ownBlock≠some x∧x≠ob) wr w':=⟨hg.size,fun x hx hlt=>hg.block x hlt (fun e=>hx.1 e.symm)⟩
 have hge:∀g,v3.ownBlock=some g→B≤g:=fun g hg=>(hr.c.lt hg).1
 have m62f4f6:=trivial;exact qd418b0
end
open Go.RowKit
def vcells (v:Vv):List Value:=[.string (strOf v.data),.bool v.far,.int .i64 v.size,.int .i64 v.page]
def ecells (e:En):List Value:=.string (strOf e.key)::vcells e.v
def vv (v:Vv):Value:=.agg #[.string (strOf v.data),.bool v.far,.int .i64 v.size,.int .i64 v.page]
def ev (e:En):Value:=.agg #[.string (strOf e.key),.string (strOf e.v.data),.bool e.v.far,.int .i64 e.v.size,.int .i64 e.v.page]
theorem keyB_ne {k:List UInt8} (h:k≠[]):keyB k=decide ((k.length:Int)≤16):=by
 have e:(k != [])=true:=by simpa using h
 rw[keyB,e,Bool.true_and];exact decide_eq_decide.2 (by omega)
theorem key_any (k:List UInt8) (w:World) (hl:k.length≤9223372036854775807) :
 Calls Tryz.prog 233 #[.string (strOf k)] w fun e w'=>e=.returned (.bool (keyB k))∧w=w':=by
 have hst:=strOf_toList;have hsz:=strOf_size k
 by_cases h:k=[]
 ·subst h
  go_enter Tryz.func233,Tryz.ntmps233;exact q72c811
 ·have hb:(k == [])=false:=by simpa using h
  go_enter Tryz.func233,Tryz.ntmps233
  go_wp2
  all_goals
   go_ret;exact⟨ret_bool (keyB_ne h).symm,rfl⟩
theorem page_any (n:Int) (w:World) :
 Calls Tryz.prog 234 #[.int .i64 n] w fun e w'=>e=.returned (.bool (pageB n))∧w=w':=by
 go_enter Tryz.func234,Tryz.ntmps234
 go_wp2
 all_goals
  go_ret;exact⟨ret_bool (by simp[pageB, *];try omega),rfl⟩
theorem wrap_u64N (n:Int):IntKind.u64.wrap n=(u64N n:Int):=by
 simp[IntKind.wrap,IntKind.signed,IntKind.bits];unfold u64N;omega
theorem two_any (n:Int) (w:World) :
 Calls Tryz.prog 235 #[.int .i64 n] w (OwnBytes 5 w (two n)):=by
 have h:Calls Tryz.prog 64 #[.int .u64 (u64N n:Int),.int .i64 2] w (OwnBytes 5 w (beBytes (u64N n) 2)):=num_ok (u64N n) 2 w (u64N_lt n) (by decide) (by decide);have hw:=wrap_u64N n;unfold two;generalize u64N n=x at *;go_enter Tryz.func235,Tryz.ntmps235;go_wp2_with fail
 (with_reducible refine h.mono ?_)
 rintro e w' ⟨v,rfl,hown,hb⟩
 go_wp2
 go_ret;exact⟨v,rfl,hown,hb⟩
theorem kind_any (leaf:Bool) (v:Value) (w:World) :
 Calls Tryz.prog 174 #[.agg #[.bool leaf,v]] w fun e w'=>e=.returned (.int .u8 ((kindN leaf).toNat:Int))∧Below w.heap.size w w':=by
 cases leaf
 all_goals
  go_enter Tryz.func174,Tryz.ntmps174
  go_wp2
  go_ret;exact⟨rfl,(Below.refl _ _).alloc (Nat.le_refl _) _⟩
def shapeL:List Value:=[.nilIface,.iface 273 (.agg #[]),.iface 315 (.agg #[])]
def ShapesPost (w:World) (e:Ending) (w':World):Prop:=∃b,e=.returned (.slice (some ⟨b,0,none⟩) 3 3)∧Boxes w' [(b,shapeL)]∧Below w.heap.size w w'
theorem shapes_any (w:World):Calls Tryz.prog 139 #[] w (ShapesPost w):=by
 have hB:=(Below.refl w.heap.size w).alloc (Nat.le_refl _) (.cells #[.nilIface,.iface 273 (.agg #[]),.iface 315 (.agg #[])] 271);have BX:=(Boxes.nil w).alloc #[.nilIface,.iface 273 (.agg #[]),.iface 315 (.agg #[])] 271 rfl;go_enter Tryz.func139,Tryz.ntmps139
 go_wp2
 go_ret;exact⟨_,rfl,BX,hB⟩
theorem leastL_any (w:World) :
 Calls Tryz.prog 229 #[.agg #[]] w fun e w'=>e=.returned (.int .i64 1)∧Below w.heap.size w w':=by
 go_enter Tryz.func229,Tryz.ntmps229
 go_wp2
 go_ret;exact⟨rfl,(Below.refl _ _).alloc (Nat.le_refl _) _⟩
theorem leastB_any (w:World) :
 Calls Tryz.prog 236 #[.agg #[]] w fun e w'=>e=.returned (.int .i64 2)∧Below w.heap.size w w':=by
 go_enter Tryz.func236,Tryz.ntmps236
 go_wp2
 go_ret;exact⟨rfl,(Below.refl _ _).alloc (Nat.le_refl _) _⟩
theorem m_putL (w:World):(method 472 273 (.agg #[]) "jalousie/node.put").run Tryz.prog w=.ok (231,.agg #[]) w:=by kernel_rfl
theorem m_putB (w:World):(method 472 315 (.agg #[]) "jalousie/node.put").run Tryz.prog w=.ok (238,.agg #[]) w:=by kernel_rfl
theorem m_takeL (w:World):(method 472 273 (.agg #[]) "jalousie/node.take").run Tryz.prog w=.ok (232,.agg #[]) w:=by kernel_rfl
theorem m_takeB (w:World):(method 472 315 (.agg #[]) "jalousie/node.take").run Tryz.prog w=.ok (239,.agg #[]) w:=by kernel_rfl
theorem m_mayL (w:World):(method 472 273 (.agg #[]) "jalousie/node.may").run Tryz.prog w=.ok (230,.agg #[]) w:=by kernel_rfl
theorem m_mayB (w:World):(method 472 315 (.agg #[]) "jalousie/node.may").run Tryz.prog w=.ok (237,.agg #[]) w:=by kernel_rfl
theorem m_leastL (w:World):(method 472 273 (.agg #[]) "jalousie/node.least").run Tryz.prog w=.ok (229,.agg #[]) w:=by kernel_rfl
theorem m_leastB (w:World):(method 472 315 (.agg #[]) "jalousie/node.least").run Tryz.prog w=.ok (236,.agg #[]) w:=by kernel_rfl
open Go.RowKit
theorem ret_b {a b:Bool} {w w':World} {B:Nat} (h:a=b) (hb:Below B w w'):Ending.returned (.bool a)=.returned (.bool b)∧Below B w w':=⟨by rw[h],hb⟩
theorem below_one (w:World) (o:Obj):Below w.heap.size w (w.alloc o):=(Below.refl _ _).alloc (Nat.le_refl _) o
theorem below_two' (w:World) (o p:Obj):Below w.heap.size w ((w.alloc o).alloc p):=(below_one w o).alloc (by simp) p
theorem below_three (w:World) (o p q:Obj):Below w.heap.size w (((w.alloc o).alloc p).alloc q):=(below_two' w o p).alloc (by simp;omega) q
theorem mayL_any (e:En) (i:Int) (w:World) (hl:e.key.length≤9223372036854775807) :
 Calls Tryz.prog 230 #[.agg #[],.int .i64 i,ev e] w fun en w'=>en=.returned (.bool (mayL e))∧Below w.heap.size w w':=by
 obtain⟨k,d,f,s,p⟩:=e;have K:=fun W=>key_any k W hl
 have P:=fun W=>page_any p W
 have hst:=strOf_toList;have hsz:=strOf_size d;unfold ev;cases hk:keyB k<;>cases hp:pageB p<;>cases f
 all_goals
  rw[hk] at K;rw[hp] at P;go_enter Tryz.func230,Tryz.ntmps230
  go_wp2_with (first|(go_at_call 233;(with_reducible refine(K _).mono ?_);rintro e w' ⟨rfl,rfl⟩)|(go_at_call 234;(with_reducible refine(P _).mono ?_);rintro e w' ⟨rfl,rfl⟩))
  all_goals
   go_ret;exact ret_b (by simp[mayL,hk,hp, *]<;>omega) (below_three w _ _ _)
theorem veq_any (v u:Vv) (w:World) :
 (binOp .eql 209 (vv v) (vv u)).run Tryz.prog w=.ok (.bool (v == u)) w:=by
 obtain⟨a,b,c,d⟩:=v;obtain⟨a',b',c',d'⟩:=u
 by_cases h1:a=a'<;>by_cases h2:b=b'<;>by_cases h3:c=c'<;>by_cases h4:d=d'<;>simp[vv,go_sem,strOf_toList,h1,h2,h3,h4]
theorem veq_page (v:Vv) (w:World) :
 (binOp .eql 209 (.agg #[.string (strOf v.data),.bool v.far,.int .i64 v.size,.int .i64 v.page]) (.agg #[.string ⟨#[]⟩,.bool false,.int .i64 0,.int .i64 v.page])).run Tryz.prog w=.ok (.bool (v == ⟨[],false,0,v.page⟩)) w:=
 veq_any v ⟨[],false,0,v.page⟩ w
theorem mayB_any (e:En) (i:Nat) (w:World) (hl:e.key.length≤9223372036854775807) :
 Calls Tryz.prog 237 #[.agg #[],.int .i64 (i:Int),ev e] w fun en w'=>en=.returned (.bool (mayB i e))∧Below w.heap.size w w':=by
 obtain⟨k,v⟩:=e;have K:=fun W=>key_any k W hl
 have P:=fun W=>page_any v.page W
 have hst:=strOf_toList;have hv:=fun W=>veq_page v W
 have hB:=below_two' w (.cells #[] 315) (.cells #[.string (strOf k),.string (strOf v.data),.bool v.far,.int .i64 v.size,.int .i64 v.page] 211);have hM:mayB i ⟨k,v⟩=(firstB i k && (pageB v.page && v == ⟨[],false,0,v.page⟩)):=rfl;have HM:=Hd hM;have HB:=Hd hB;clear hM hB;unfold ev;generalize (v == ⟨[],false,0,v.page⟩)=vb at *
 by_cases hi:i=0
 ·subst hi
  have hf:firstB 0 k=(k == []):=rfl;cases hk:(k == [])<;>cases hp:pageB v.page
  all_goals
   have HF:=Hd (hf.trans hk);rw[hp] at P HM;clear hf;exact q0707a3
 ·have hi0:((i:Int) == 0)=false:=by simpa using hi
  have hi1:decide ((0:Int)<(i:Int))=true:=by simp;omega
  have hf:firstB i k=keyB k:=by rw[firstB,if_neg hi]
  cases hk:keyB k<;>cases hp:pageB v.page
  all_goals
   have HF:=Hd (hf.trans hk);rw[hp] at P HM;rw[hk] at K;clear hf hk;exact q0707a3
open Go.RowKit
theorem putB_any (v:Vv) (w:World) :
 Calls Tryz.prog 238 #[.agg #[],vv v] w (OwnBytes 5 w (encV false v)):=by
 have hB:=below_two' w (.cells #[] 315) (.cells #[.string (strOf v.data),.bool v.far,.int .i64 v.size,.int .i64 v.page] 209);have T:=fun W=>two_any v.page W
 show Calls _ _ _ _ (OwnBytes 5 w (two v.page));unfold vv;go_enter Tryz.func238,Tryz.ntmps238;go_wp2_with fail;refine(T _).mono ?_;rintro e w' ⟨v',rfl,hown,hb⟩;have hown:=own_baseC hown hB.size;have hb:=below_then hB hb
 go_wp2
 go_ret;exact⟨v',rfl,hown,hb⟩
theorem putL_near (d:List UInt8) (s p:Int) (w:World) (hd:d.length≤140737488351232) :
 Calls Tryz.prog 231 #[.agg #[],vv ⟨d,false,s,p⟩] w (OwnBytes 5 w ([0]++d)):=by
 obtain⟨i0,hi,hz0,hz1,hz2⟩:=info_parts info_u8;have hB:=below_three w (.cells #[] 273) (.cells #[.string (strOf d),.bool false,.int .i64 s,.int .i64 p] 209) (.cells #[.int .u8 0] 5);obtain⟨v',w',hr,ho,hg⟩:=run_append_text (P:=Tryz.prog) w.heap.size 42 9 5 i0 Tryz.underlying42 Tryz.underlying9 hi hz0 hz1 hz2 (own_made .u8 ((w.alloc (.cells #[] 273)).alloc (.cells #[.string (strOf d),.bool false,.int .i64 s,.int .i64 p] 209)) 5 [0] (b:=w.heap.size+1+1) (by simp) (by omega) (by unfold maxLen;simp)) d (by simp;omega) (by simp;omega);have hb:Below w.heap.size w w':=hB.grown hg (by simp;omega) (fun k hk=>by cases hk;show w.heap.size≤w.heap.size+1+1;omega);have HO:=Hd ho;have HB:=Hd hb;have hr:(Builtin.append_ #[42,9] 42 #[.slice (some ⟨w.heap.size+1+1,0,none⟩) 1 1,.string (strOf d)]).run Tryz.prog (((w.alloc (.cells #[] 273)).alloc (.cells #[.string (strOf d),.bool false,.int .i64 s,.int .i64 p] 209)).alloc (.cells #[.int .u8 0] 5))=.ok v' w':=hr;clear ho hb hg hB hz0 hz1 hz2 hi;unfold vv;go_enter Tryz.func231,Tryz.ntmps231
 go_wp2_with (at_builtin;refine wpList_append_run rfl _ _ _ _ rfl rfl rfl hr ?_)
 go_ret;exact⟨v',rfl,by have:=HO.out;simpa[toI,Nat.add_comm] using this,HB.out⟩
theorem own_drew {w:World} {base:Nat} {e:TypeId} {size:Nat} {v:Value} {n:Nat} {xs:List Value} (h:w.ownsRow base e size v n xs):w.drew.ownsRow base e size v n xs:=h
theorem own_bytes {w:World} {base:Nat} (h:base≤w.heap.size) (x:UInt8):(w.alloc (.cells #[.int .u8 (x.toNat:Int)] 5)).ownsRow base 5 1 (.slice (some ⟨w.heap.size,0,none⟩) 1 1) 1 ((toI [x]).map (Value.int .u8)):=
 World.ownsRow_lit w #[.int .u8 (x.toNat:Int)] 1 h (by unfold maxLen;omega) rfl
theorem append_bytes {w:World} {base:Nat} {v:Value} {n:Nat} {p:List UInt8} (hown:w.ownsRow base 5 1 v n ((toI p).map (Value.int .u8))) {a:Option Addr} {m c:Nat} {l:List UInt8} (h:Bs w a m c l) (hn:n+m≤140737488355328) (hbase:base≤w.heap.size) :
 ∃v' w',(Builtin.append_ #[42,42] 42 #[v,.slice a m c]).run Tryz.prog w=.ok v' w'∧AppOut w base 5 1 v (n+m) ((toI (p++l)).map (Value.int .u8)) w.heap.size v' w':=by
 obtain⟨i0,hi,hz0,hz1,hz2⟩:=info_parts info_u8;obtain⟨v',w',h1,h2⟩:=run_append_row (P:=Tryz.prog) base 42 5 i0 _ 1 Tryz.underlying42 hi hz0 hz1 hz2 rfl hown h (by unfold maxLen;omega) (by omega) hbase;exact⟨v',w',h1,by rw[←toI_append,List.map_append];exact h2⟩
theorem putL_far (d:List UInt8) (s p:Int) (w:World) :
 Calls Tryz.prog 231 #[.agg #[],vv ⟨d,true,s,p⟩] w (OwnBytes 5 w ([1]++two s++two p)):=by
 have hB:=below_two' w (.cells #[] 273) (.cells #[.string (strOf d),.bool true,.int .i64 s,.int .i64 p] 209);have BX:=((Boxes.nil w).alloc #[] 273 rfl).alloc #[.string (strOf d),.bool true,.int .i64 s,.int .i64 p] 209 (by simp:_=w.heap.size+1);have T1:=fun W=>two_any s W
 have T2:=fun W=>two_any p W
 have l1:=two_length s;have l2:=two_length p;unfold vv;generalize two s=ts at *;generalize two p=tp at *;have L1:=Hd l1;have L2:=Hd l2;clear l1 l2;go_enter Tryz.func231,Tryz.ntmps231;go_wp2_with fail;generalize (w.alloc _).alloc _=W2 at *;have c2:∀W,Below W2.heap.size W2 W→W.cell? ⟨w.heap.size+1,2,none⟩=some (.int .i64 s):=fun W hW=>(BX.step hW).cell 0 2 rfl rfl
 have c3:∀W,Below W2.heap.size W2 W→W.cell? ⟨w.heap.size+1,3,none⟩=some (.int .i64 p):=fun W hW=>(BX.step hW).cell 0 3 rfl rfl
 have hC:Below W2.heap.size W2 W2.drew:=(Below.refl _ _).drew;have hCA:∀o,Below W2.heap.size W2 (W2.alloc o).drew:=fun o=>((Below.refl _ _).alloc (Nat.le_refl _) o).drew
 go_region_held3 (fun W=>Below W2.heap.size W2 W) (first|with_reducible assumption|(with_reducible exact hCA _)|(with_reducible exact hC3.alloc hC3.size _)) (first|(go_at_call 235;(with_reducible refine(T1 _).mono ?_);rintro e w3 ⟨v3,rfl,ho3,hb3⟩;rw[L1.out] at ho3;obtain⟨a3,k3,rfl,hs3⟩:=Bs.of_own ho3;(first|(have hC3:=hC.trans (hb3.mono hC.size);have hx3:Below W2.heap.size W2 (w3.alloc (.cells #[.int .u8 1] 5)):=hC3.alloc hC3.size _;obtain⟨v4,w4,hr4,ho4,hg4,ha4⟩:=append_bytes (own_bytes (base:=W2.heap.size) hC3.size 1) (hs3.below (Nat.le_refl _) (below_one w3 (.cells #[.int .u8 1] 5))) (by omega) hx3.size;have hC4:Below W2.heap.size W2 w4:=hx3.grown hg4 hx3.size (fun k hk=>by cases hk;exact hC3.size))|(have hC3:=(hCA (.cells #[.int .u8 1] 5)).trans (hb3.mono (by simp));obtain⟨v4,w4,hr4,ho4,hg4,ha4⟩:=append_bytes (own_below (own_drew (own_bytes (base:=W2.heap.size) (Nat.le_refl _) 1)) (Nat.le_refl _) hb3) hs3 (by omega) hC3.size;have hC4:Below W2.heap.size W2 w4:=hC3.grown hg4 hC3.size (fun k hk=>by cases hk;exact Nat.le_refl _))))|(refine step_append_run rfl _ _ _ _ rfl rfl rfl hr4 ?_)|(go_at_call 235;(with_reducible refine(T2 _).mono ?_);rintro e w5 ⟨v5,rfl,ho5,hb5⟩;rw[L2.out] at ho5;obtain⟨a5,k5,rfl,hs5⟩:=Bs.of_own ho5;have hC5:=hC4.trans (hb5.mono hC4.size);obtain⟨v6,w6,hr6,ho6,hg6,ha6⟩:=append_bytes (own_below ho4 (Nat.le_refl _) hb5) hs5 (by omega) hC5.size;have hC6:Below W2.heap.size W2 w6:=hC5.grown hg6 hC5.size (own_ge ho4))|(refine step_append_run rfl _ _ _ _ rfl rfl rfl hr6 ?_))
 all_goals
  have hb:=hB.trans (hC6.mono hB.size);go_wp2_with fail;go_ret;refine⟨_,rfl,?_,hb⟩;have:=own_baseC ho6 hB.size;have e:(1::(ts++tp):List UInt8).length=1+2+2:=by simp[L1.out,L2.out]
  rw[e];exact this
theorem put_any (leaf:Bool) (v:Vv) (w:World) (hd:v.data.length≤140737488351232) :
 Calls Tryz.prog (if leaf then 231 else 238) #[.agg #[],vv v] w (OwnBytes 5 w (encV leaf v)):=by
 cases leaf
 ·exact putB_any v w
 ·obtain⟨d,f,s,p⟩:=v
  cases f
  ·exact putL_near d s p w hd
  ·exact putL_far d s p w
open Go.RowKit
def IsEn (cs:List Value) (y:En):Prop:=cs=ecells y
def NEnts (w:World) (a:Option Addr) (len cap:Nat) (l:List En):Prop:=TabR 5 IsEn w a len cap l
theorem NEnts.below {w w':World} {a:Option Addr} {len cap:Nat} {l:List En} {B:Nat} (hB:w.heap.size≤B) (hb:Below B w w') (h:NEnts w a len cap l):NEnts w' a len cap l:=TabR.below hB hb h
theorem NEnts.len {w:World} {a:Option Addr} {len cap:Nat} {l:List En} (h:NEnts w a len cap l):l.length=len:=h.1
theorem NEnts.at {w:World} {a:Option Addr} {len cap:Nat} {l:List En} (h:NEnts w a len cap l) {k:Nat} (hk:k<len) :
 ∃b off e,a=some ⟨b,off,none⟩∧b<w.heap.size∧l[k]? = some e∧w.cell? ⟨b,off+k*5,none⟩=some (.string (strOf e.key))∧w.cell? ⟨b,off+k*5+1,none⟩=some (.string (strOf e.v.data))∧w.cell? ⟨b,off+k*5+2,none⟩=some (.bool e.v.far)∧w.cell? ⟨b,off+k*5+3,none⟩=some (.int .i64 e.v.size)∧w.cell? ⟨b,off+k*5+4,none⟩=some (.int .i64 e.v.page):=by
 obtain⟨b,off,y,cs,e1,e2,e3,_,e5,e6⟩:=TabR.at h hk;unfold IsEn at e5;subst e5;exact⟨b,off,y,e1,e2,e3,e6 0 _ rfl,e6 1 _ rfl,e6 2 _ rfl,e6 3 _ rfl,e6 4 _ rfl⟩
def BssPost (w:World) (l:List (List UInt8)) (e:Ending) (w':World):Prop:=∃v,e=.returned v∧OwnBss w' w.heap.size v l∧Below w.heap.size w w'
theorem cellsN_snoc (leaf:Bool) (l:List En) (k:Nat) (e:En) (h:l[k]? = some e):cellsN leaf (l.take (k+1))=cellsN leaf (l.take k)++[cellN leaf e]:=by
 rw[cellsN,List.take_add_one,h];simp[cellsN]
theorem own_cell {w:World} {B:Nat} {v:Value} {leaf:Bool} {e:En} (h:w.ownsRow B 5 1 v ((textF e.key).length+(encV leaf e.v).length) ((toI (textF e.key++encV leaf e.v)).map (Value.int .u8))) :
 w.ownsRow B 5 1 v (cellN leaf e).length ((toI (cellN leaf e)).map (Value.int .u8)):=by rw[cellN,List.length_append];exact h
theorem cells_leaf (a:Option Addr) (len cap:Nat) (l:List En) (w:World) (h:NEnts w a len cap l) (hlen:len≤65536) (hd:∀e∈l,e.key.length≤140737488351232∧e.v.data.length≤140737488351232) :
 Calls Tryz.prog 176 #[.agg #[.bool true,.slice a len cap]] w (BssPost w (cellsN true l)):=by
 have hB:=below_one w (.cells #[.bool true,.slice a len cap] 205);have BX:=(Boxes.nil w).alloc #[.bool true,.slice a len cap] 205 rfl;have SH:=fun W=>shapes_any W
 have KI:∀W,Calls Tryz.prog 174 #[.agg #[.bool true,.slice a len cap]] W fun e w'=>e=.returned (.int .u8 1)∧Below W.heap.size W w':=fun W=>kind_any true (.slice a len cap) W
 go_enter Tryz.func176,Tryz.ntmps176;have m8119dc:=trivial;exact q13df47
theorem cells_branch (a:Option Addr) (len cap:Nat) (l:List En) (w:World) (h:NEnts w a len cap l) (hlen:len≤65536) (hd:∀e∈l,e.key.length≤140737488351232∧e.v.data.length≤140737488351232) :
 Calls Tryz.prog 176 #[.agg #[.bool false,.slice a len cap]] w (BssPost w (cellsN false l)):=by
 have hB:=below_one w (.cells #[.bool false,.slice a len cap] 205);have BX:=(Boxes.nil w).alloc #[.bool false,.slice a len cap] 205 rfl;have SH:=fun W=>shapes_any W
 have KI:∀W,Calls Tryz.prog 174 #[.agg #[.bool false,.slice a len cap]] W fun e w'=>e=.returned (.int .u8 2)∧Below W.heap.size W w':=fun W=>kind_any false (.slice a len cap) W
 go_enter Tryz.func176,Tryz.ntmps176;have mc582aa:=trivial;exact q1739d2
theorem cells_any (leaf:Bool) (a:Option Addr) (len cap:Nat) (l:List En) (w:World) (h:NEnts w a len cap l) (hlen:len≤65536) (hd:∀e∈l,e.key.length≤140737488351232∧e.v.data.length≤140737488351232) :
 Calls Tryz.prog 176 #[.agg #[.bool leaf,.slice a len cap]] w (BssPost w (cellsN leaf l)):=by
 cases leaf
 ·exact cells_branch a len cap l w h hlen hd
 ·exact cells_leaf a len cap l w h hlen hd
end Go.Proofs.YtpghlmcoajaiiaaGreatDoor
