/- A node that is built: three rows of the call's own that grow. -/
import Derived.Test.YtemfnjlfcemehaaM7
import Derived.Test.YtemfnjlfcemehaaM9
namespace Go.Proofs.Ytemfnjlfcemehaa
open Go.RowKit

/-- A row of the call's own, what its elements tell. -/
def RowQ {α : Type} (sz : Nat) (Q : List Value → α → Prop) (E : TypeId) (B : Nat) (w : World) (v : Value) (l : List α) : Prop := ∃ L : List (Cl sz), w.ownsRow B E sz v l.length (flatC L) ∧ Tells Q L l
/-- A row's block stays, or is new. -/
def Turn (w : World) (v v' : Value) : Prop := v'.ownBlock = v.ownBlock ∨ ∀ g, v'.ownBlock = some g → w.heap.size ≤ g
theorem Turn.ne {w : World} {v v' : Value} (h : Turn w v v') {b : Nat} (hb : v.ownBlock ≠ some b) (hlt : b < w.heap.size) : v'.ownBlock ≠ some b := fun e => by
  rcases h with h | h
  · rw [h] at e; exact hb e
  · have := h b e; omega
section
variable {α : Type} {sz : Nat} {Q : List Value → α → Prop} {E : TypeId} {B : Nat} {w : World} {v : Value} {l : List α}
theorem RowQ.nil (w : World) : RowQ sz Q E B w (.slice none 0 0) [] := ⟨[], own_nil w E sz B, Tells.nil⟩
theorem RowQ.lt (h : RowQ sz Q E B w v l) {g : Nat} (hg : v.ownBlock = some g) : B ≤ g ∧ g < w.heap.size := by
  obtain ⟨L, h1, _⟩ := h
  exact World.ownsRow.lt h1 g hg
theorem RowQ.keep {Q' : List Value → α → Prop} {w' : World} (h : RowQ sz Q E B w v l) (ha : AgreeF (fun b => v.ownBlock = some b) w w') (hQ : ∀ cs y, Q cs y → Q' cs y) : RowQ sz Q' E B w' v l := by
  obtain ⟨L, h1, h2⟩ := h
  exact ⟨L, own_agree h1 ha (fun g hg => hg), h2.mono (fun _ _ _ h => hQ _ _ h)⟩
theorem RowQ.sl (h : RowQ sz Q E B w v l) : ∃ a c, v = .slice a l.length c ∧ l.length ≤ c ∧ c ≤ 9223372036854775807 ∧ TabR sz Q w a l.length c l ∧ Fa (fun b => B ≤ b) a l.length := by
  obtain ⟨L, h1, h2⟩ := h
  have hlen : L.length = l.length := h2.1
  rcases h1.2 with ⟨rfl, h0⟩ | ⟨g, cap, cur, rfl, hg, hh, hn, hm, hr⟩
  · have : l = [] := List.eq_nil_of_length_eq_zero h0
    subst this
    exact ⟨none, 0, rfl, by simp, by omega, ⟨rfl, by simp, by unfold maxLen; omega, fun _ => rfl, .inl rfl⟩, .inl rfl⟩
  · refine ⟨_, cap, rfl, hn, by unfold maxLen at hm; omega, ?_, Fa.of_own h1 (fun b hb => hb)⟩
    obtain ⟨a', c', e, hr'⟩ := Raw.of_own h1 hlen
    cases e
    exact hr'.tab h2
theorem RowQ.push {P : Program} {t : TypeId} {bytes : Nat} (ht : P.underlying t = some (.slice E)) (hi : RowInfo P E sz bytes) (hsz : 0 < sz) (hby : bytes ≤ 1000) (h : RowQ sz Q E B w v l) (hB : B ≤ w.heap.size) (hl : l.length ≤ 100000) {cs : List Value} (hlen : cs.length = sz) (hone : ∀ u ∈ cs, u.oneCell' = true) :
    ∃ v' w', (Builtin.append_ #[t, t] t #[v, .slice (some ⟨w.heap.size, 0, none⟩) 1 1]).run P (w.alloc (.cells cs.toArray E)) = .ok v' w' ∧ w.grownBy w' v.ownBlock ∧ Turn w v v' ∧
      ∀ (Q' : List Value → α → Prop) (y : α), (∀ cs y, Q cs y → Q' cs y) → Q' cs y → RowQ sz Q' E B w' v' (l ++ [y]) := by
  obtain ⟨L, h1, h2⟩ := h
  obtain ⟨i, z, i1, i2, i3, i4, i5⟩ := hi
  have hbb : (l.length + 1) * bytes ≤ 140737488355328 := Nat.le_trans (Nat.mul_le_mul (show l.length + 1 ≤ 100001 by omega) hby) (by decide)
  obtain ⟨v', w', hr, ho, hg, hv⟩ := run_append_new (P := P) B t E i z sz bytes ht i1 i2 i3 i4 i5 hsz h1 cs.toArray (by simpa using hlen) (by simpa using hone) (by unfold maxLen; omega) hbb hB
  refine ⟨v', w', hr, hg, ?_, fun Q' y hQ hy => ⟨L ++ [⟨cs, hlen, hone⟩], ?_, (h2.mono (fun _ _ _ h => hQ _ _ h)).append (Tells.one hy)⟩⟩
  · rcases hv with hv | hv
    · exact .inl hv
    · exact .inr fun g e => by rw [hv] at e; have := Option.some.inj e; omega
  · have e : flatC (L ++ [⟨cs, hlen, hone⟩]) = flatC L ++ cs := by rw [flatC_append]; exact congrArg (flatC L ++ ·) (List.append_nil cs)
    rw [e, List.length_append]; exact ho
end
/-- The blocks that what is in the rows may stand on. -/
def G3 (F : Nat → Prop) (B : Nat) (v1 v2 v3 : Value) (b : Nat) : Prop := (F b ∨ B ≤ b) ∧ v1.ownBlock ≠ some b ∧ v2.ownBlock ≠ some b ∧ v3.ownBlock ≠ some b
theorem TvOn.lt {F : Nat → Prop} {w : World} {cs : List Value} {v : Tv} (h : TvOn F w cs v) : TvOn (fun b => F b ∧ b < w.heap.size) w cs v := by
  obtain ⟨a, n, c, e, h, f⟩ := h
  exact ⟨a, n, c, e, h, f.and h.block⟩
theorem tvKeep {G G' : Nat → Prop} {w w' : World} {cs : List Value} {y : Tv} (h : TvOn G w cs y) (ha : AgreeF G w w') (hG : ∀ b, G b → b < w.heap.size → G' b) : TvOn G' w' cs y :=
  (h.lt.agree ⟨ha.1, fun b hb hlt => ha.2 b hb.1 hlt⟩).mono (fun b hb => hG b hb.1 hb.2)
theorem nodeKeep {G G' : Nat → Prop} {n : Nat} {w w' : World} {cs : List Value} {y : Tr} (h : NodeOn G n w cs y) (ha : AgreeF G w w') (hG : ∀ b, G b → b < w.heap.size → G' b) : NodeOn G' n w' cs y :=
  (h.lt.agree ⟨ha.1, fun b hb hlt => ha.2 b hb.1 hlt⟩).mono (fun b hb => hG b hb.1 hb.2)
/-- Three rows that grow: keys, values, kids. -/
structure NodeRows (T1 T2 T3 : TypeId) (F : Nat → Prop) (n B : Nat) (w : World) (v1 v2 v3 : Value) (K : List (List UInt8)) (V : List Tv) (C : List Tr) : Prop where
  k : RowQ 1 IsKey T1 B w v1 K
  v : RowQ 2 (TvOn (G3 F B v1 v2 v3) w) T2 B w v2 V
  c : RowQ 5 (NodeOn (G3 F B v1 v2 v3) n w) T3 B w v3 C
  d12 : ∀ g, v1.ownBlock = some g → v2.ownBlock ≠ some g
  d13 : ∀ g, v1.ownBlock = some g → v3.ownBlock ≠ some g
  d23 : ∀ g, v2.ownBlock = some g → v3.ownBlock ≠ some g
section
variable {T1 T2 T3 : TypeId} {F : Nat → Prop} {n B : Nat} {w : World} {v1 v2 v3 : Value} {K : List (List UInt8)} {V : List Tv} {C : List Tr}
theorem NodeRows.nil (T1 T2 T3 : TypeId) (F : Nat → Prop) (n B : Nat) (w : World) : NodeRows T1 T2 T3 F n B w (.slice none 0 0) (.slice none 0 0) (.slice none 0 0) [] [] [] :=
  ⟨RowQ.nil w, RowQ.nil w, RowQ.nil w, fun g h => (by cases h), fun g h => (by cases h), fun g h => (by cases h)⟩
theorem NodeRows.agree {w' : World} (h : NodeRows T1 T2 T3 F n B w v1 v2 v3 K V C) (ha : AgreeF (fun b => F b ∨ B ≤ b) w w') : NodeRows T1 T2 T3 F n B w' v1 v2 v3 K V C where
  k := h.k.keep (ha.sub fun _ hb => .inr (h.k.lt hb).1) (fun _ _ h => h)
  v := h.v.keep (ha.sub fun _ hb => .inr (h.v.lt hb).1) (fun _ _ h => h.agree (ha.sub fun _ hb => hb.1))
  c := h.c.keep (ha.sub fun _ hb => .inr (h.c.lt hb).1) (fun _ _ h => h.agree (ha.sub fun _ hb => hb.1))
  d12 := h.d12
  d13 := h.d13
  d23 := h.d23
theorem NodeRows.below {w' : World} (h : NodeRows T1 T2 T3 F n B w v1 v2 v3 K V C) (hb : Below w.heap.size w w') : NodeRows T1 T2 T3 F n B w' v1 v2 v3 K V C := h.agree (.of_below hb)
theorem NodeRows.set {p : Addr} {u : Value} (h : NodeRows T1 T2 T3 F n B w v1 v2 v3 K V C) (hp : p.block < B) (hF : ¬ F p.block) : NodeRows T1 T2 T3 F n B (w.setCell p u) v1 v2 v3 K V C :=
  h.agree (AgreeF.set (AgreeF.refl w) (.inl fun hf => by rcases hf with hf | hf; exact hF hf; omega))
theorem NodeRows.pushK {P : Program} {t : TypeId} {bytes : Nat} (ht : P.underlying t = some (.slice T1)) (hi : RowInfo P T1 1 bytes) (hby : bytes ≤ 1000) (h : NodeRows T1 T2 T3 F n B w v1 v2 v3 K V C) (hB : B ≤ w.heap.size) (hl : K.length ≤ 100000) (key : List UInt8) :
    ∃ v' w', (Builtin.append_ #[t, t] t #[v1, .slice (some ⟨w.heap.size, 0, none⟩) 1 1]).run P (w.alloc (.cells #[.string (strOf key)] T1)) = .ok v' w' ∧ w.grownBy w' v1.ownBlock ∧ Turn w v1 v' ∧ NodeRows T1 T2 T3 F n B w' v' v2 v3 (K ++ [key]) V C := by
  obtain ⟨v', w', hr, hg, ht', hq⟩ := h.k.push (P := P) (t := t) ht hi (by decide) hby hB hl (cs := [.string (strOf key)]) rfl (by intro u hu; simp at hu; subst hu; rfl)
  have hag : AgreeF (fun b => v1.ownBlock ≠ some b) w w' := ⟨hg.size, fun b hb hlt => hg.block b hlt (fun e => hb e.symm)⟩
  have hG : ∀ b, G3 F B v1 v2 v3 b → b < w.heap.size → G3 F B v' v2 v3 b := fun b hb hlt => ⟨hb.1, ht'.ne hb.2.1 hlt, hb.2.2⟩
  refine ⟨v', w', hr, hg, ht', ⟨hq IsKey key (fun _ _ h => h) rfl, h.v.keep (hag.sub fun b hb e => h.d12 b e hb) (fun _ _ h => tvKeep h (hag.sub fun b hb => hb.2.1) hG), h.c.keep (hag.sub fun b hb e => h.d13 b e hb) (fun _ _ h => nodeKeep h (hag.sub fun b hb => hb.2.1) hG), fun g e e2 => ?_, fun g e e2 => ?_, h.d23⟩⟩
  · exact ht'.ne (fun e3 => h.d12 g e3 e2) (h.v.lt e2).2 e
  · exact ht'.ne (fun e3 => h.d13 g e3 e2) (h.c.lt e2).2 e
theorem NodeRows.pushV {P : Program} {t : TypeId} {bytes : Nat} (ht : P.underlying t = some (.slice T2)) (hi : RowInfo P T2 2 bytes) (hby : bytes ≤ 1000) (h : NodeRows T1 T2 T3 F n B w v1 v2 v3 K V C) (hB : B ≤ w.heap.size) (hl : V.length ≤ 100000) {cs : List Value} {tv : Tv} (hy : TvOn (G3 F B v1 v2 v3) w cs tv) :
    ∃ v' w', (Builtin.append_ #[t, t] t #[v2, .slice (some ⟨w.heap.size, 0, none⟩) 1 1]).run P (w.alloc (.cells cs.toArray T2)) = .ok v' w' ∧ w.grownBy w' v2.ownBlock ∧ Turn w v2 v' ∧ NodeRows T1 T2 T3 F n B w' v1 v' v3 K (V ++ [tv]) C := by
  obtain ⟨v', w', hr, hg, ht', hq⟩ := h.v.push (P := P) (t := t) ht hi (by decide) hby hB hl (cs := cs) (by obtain ⟨_, _, _, rfl, _⟩ := hy; rfl) (hy.toIn.one)
  have hag : AgreeF (fun b => v2.ownBlock ≠ some b) w w' := ⟨hg.size, fun b hb hlt => hg.block b hlt (fun e => hb e.symm)⟩
  have hG : ∀ b, G3 F B v1 v2 v3 b → b < w.heap.size → G3 F B v1 v' v3 b := fun b hb hlt => ⟨hb.1, hb.2.1, ht'.ne hb.2.2.1 hlt, hb.2.2.2⟩
  refine ⟨v', w', hr, hg, ht', ⟨h.k.keep (hag.sub fun b hb e => h.d12 b hb e) (fun _ _ h => h), hq _ tv (fun _ _ h => tvKeep h (hag.sub fun b hb => hb.2.2.1) hG) (tvKeep hy (hag.sub fun b hb => hb.2.2.1) hG), h.c.keep (hag.sub fun b hb e => h.d23 b e hb) (fun _ _ h => nodeKeep h (hag.sub fun b hb => hb.2.2.1) hG), fun g e e2 => ?_, h.d13, fun g e e2 => ?_⟩⟩
  · exact ht'.ne (h.d12 g e) (h.k.lt e).2 e2
  · exact ht'.ne (fun e3 => h.d23 g e3 e2) (h.c.lt e2).2 e
theorem NodeRows.pushC {P : Program} {t : TypeId} {bytes : Nat} (ht : P.underlying t = some (.slice T3)) (hi : RowInfo P T3 5 bytes) (hby : bytes ≤ 1000) (h : NodeRows T1 T2 T3 F n B w v1 v2 v3 K V C) (hB : B ≤ w.heap.size) (hl : C.length ≤ 100000) {cs : List Value} {kid : Tr} (hy : NodeOn (G3 F B v1 v2 v3) n w cs kid) :
    ∃ v' w', (Builtin.append_ #[t, t] t #[v3, .slice (some ⟨w.heap.size, 0, none⟩) 1 1]).run P (w.alloc (.cells cs.toArray T3)) = .ok v' w' ∧ w.grownBy w' v3.ownBlock ∧ Turn w v3 v' ∧ NodeRows T1 T2 T3 F n B w' v1 v2 v' K V (C ++ [kid]) := by
  obtain ⟨v', w', hr, hg, ht', hq⟩ := h.c.push (P := P) (t := t) ht hi (by decide) hby hB hl (cs := cs) (by obtain ⟨_, _, _, _, _, _, _, _, _, _, rfl, _⟩ := NodeOn.open_pos hy; rfl) (hy.one)
  have hag : AgreeF (fun b => v3.ownBlock ≠ some b) w w' := ⟨hg.size, fun b hb hlt => hg.block b hlt (fun e => hb e.symm)⟩
  have hG : ∀ b, G3 F B v1 v2 v3 b → b < w.heap.size → G3 F B v1 v2 v' b := fun b hb hlt => ⟨hb.1, hb.2.1, hb.2.2.1, ht'.ne hb.2.2.2 hlt⟩
  refine ⟨v', w', hr, hg, ht', ⟨h.k.keep (hag.sub fun b hb e => h.d13 b hb e) (fun _ _ h => h), h.v.keep (hag.sub fun b hb e => h.d23 b hb e) (fun _ _ h => tvKeep h (hag.sub fun b hb => hb.2.2.2) hG), hq _ kid (fun _ _ h => nodeKeep h (hag.sub fun b hb => hb.2.2.2) hG) (nodeKeep hy (hag.sub fun b hb => hb.2.2.2) hG), h.d12, fun g e e2 => ?_, fun g e e2 => ?_⟩⟩
  · exact ht'.ne (h.d13 g e) (h.k.lt e).2 e2
  · exact ht'.ne (h.d23 g e) (h.v.lt e).2 e2
/-- All three rows as slices. -/
theorem NodeRows.sl (h : NodeRows T1 T2 T3 F n B w v1 v2 v3 K V C) : ∃ a1 c1 a2 c2 a3 c3, v1 = .slice a1 K.length c1 ∧ v2 = .slice a2 V.length c2 ∧ v3 = .slice a3 C.length c3 := by
  obtain ⟨a1, c1, rfl, _⟩ := h.k.sl
  obtain ⟨a2, c2, rfl, _⟩ := h.v.sl
  obtain ⟨a3, c3, rfl, _⟩ := h.c.sl
  exact ⟨a1, c1, a2, c2, a3, c3, rfl, rfl, rfl⟩
/-- A leaf that was built. -/
theorem NodeRows.leaf {G : Nat → Prop} {p : Int} {l : List (List UInt8 × Tv)} (h : NodeRows T1 T2 T3 F n B w v1 v2 v3 (keysOf l) (l.map (·.2)) []) (hG : ∀ b, F b ∨ B ≤ b → G b) (m : Nat) : NodeOn G (m + 1) w [.int .i64 p, .bool true, v1, v2, v3] (.leaf p l) := by
  obtain ⟨a1, c1, rfl, _, _, h1, f1⟩ := h.k.sl
  obtain ⟨a2, c2, rfl, _, _, h2, f2⟩ := h.v.sl
  obtain ⟨a3, c3, rfl, _, _, h3, f3⟩ := h.c.sl
  exact ⟨a1, _, c1, a2, _, c2, a3, c3, rfl, h1, f1.mono (fun b hb => hG b (.inr hb)), TabR.mono h2 (fun _ _ h => h.mono (fun b hb => hG b hb.1)), f2.mono (fun b hb => hG b (.inr hb)), unit_any h3⟩
/-- A branch that was built. -/
theorem NodeRows.node {G : Nat → Prop} {p : Int} {l : List (List UInt8 × Tr)} (h : NodeRows T1 T2 T3 F n B w v1 v2 v3 (keysOf l) [] (l.map (·.2))) (hG : ∀ b, F b ∨ B ≤ b → G b) : NodeOn G (n + 1) w [.int .i64 p, .bool false, v1, v2, v3] (.node p l) := by
  obtain ⟨a1, c1, rfl, _, _, h1, f1⟩ := h.k.sl
  obtain ⟨a2, c2, rfl, _, _, h2, f2⟩ := h.v.sl
  obtain ⟨a3, c3, rfl, _, _, h3, f3⟩ := h.c.sl
  exact ⟨a1, _, c1, a2, c2, a3, _, c3, rfl, h1, f1.mono (fun b hb => hG b (.inr hb)), unit_any h2, TabR.mono h3 (fun _ _ h => NodeOn.mono (fun b hb => hG b hb.1) h), f3.mono (fun b hb => hG b (.inr hb))⟩
end
end Go.Proofs.Ytemfnjlfcemehaa
