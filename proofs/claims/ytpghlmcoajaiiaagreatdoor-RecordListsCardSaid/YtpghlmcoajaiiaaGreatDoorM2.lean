/- Texts that other texts of this claim lean on, one behind the other. -/
import Derived.Test.YtpghlmcoajaiiaaGreatDoorM1
import Derived.Outline
/- Tools for regions that draw: boxes made beside calls, in whatever order. -/
namespace Go.Proofs.YtpghlmcoajaiiaaGreatDoor
open Go.RowKit

theorem Below.al {a w : World} {o : Obj} (h : Below a.heap.size a w) : Below a.heap.size a (w.alloc o) := h.alloc h.size o
theorem Below.dr {B : Nat} {a w : World} (h : Below B a w) : Below B a w.drew := h.drew
theorem Below.st {a w : World} {b i : Nat} {u : Value} (h : Below a.heap.size a w) (hb : a.heap.size ≤ b) : Below a.heap.size a (w.setCell ⟨b, i, none⟩ u) := h.setCell hb _
theorem Boxes.al {w : World} {l : List (Nat × List Value)} {o : Obj} (h : Boxes w l) : Boxes (w.alloc o) l := h.step ((Below.refl _ _).alloc (Nat.le_refl _) o)
theorem Boxes.dr {w : World} {l : List (Nat × List Value)} (h : Boxes w l) : Boxes w.drew l := h
theorem Boxes.st {w : World} {l : List (Nat × List Value)} {b i : Nat} {u : Value} (h : Boxes w l) (hne : ∀ p ∈ l, p.1 ≠ b) : Boxes (w.setCell ⟨b, i, none⟩ u) l := h.set ⟨b, i, none⟩ u hne
theorem below_via {a W w' : World} (h1 : Below a.heap.size a W) (h2 : Below W.heap.size W w') : Below a.heap.size a w' := h1.trans (h2.mono h1.size)
/-- What a call that makes a row leaves, beside the region's first world. -/
def RowOut (E : TypeId) (sz : Nat) (wc W : World) (L : List (Cl sz)) (e : Ending) (w' : World) : Prop :=
  ∃ a c, e = .returned (.slice a L.length c) ∧ L.length ≤ c ∧ c ≤ 9223372036854775807 ∧ w'.ownsRow wc.heap.size E sz (.slice a L.length c) L.length (flatC L) ∧ Below W.heap.size W w' ∧ Below wc.heap.size wc w'
theorem OwnRaw.row {E : TypeId} {sz : Nat} {wc W : World} {L : List (Cl sz)} {e : Ending} {w' : World} (hb : Below wc.heap.size wc W) (h : OwnRaw E sz W L e w') : RowOut E sz wc W L e w' := by
  obtain ⟨a, c, h1, h2, h3, h4, h5⟩ := h.sl
  exact ⟨a, c, h1, h2, h3, own_base h4 hb.size, h5, below_via hb h5⟩
/-- A block, and its cells. -/
def BoxAt (w : World) (b : Nat) (cs : Array Value) : Prop := ∃ t, w.heap[b]? = some (.cells cs t (0, 0))
theorem BoxAt.here {w : World} {cs : Array Value} {t : TypeId} : BoxAt (w.alloc (.cells cs t)) w.heap.size cs := ⟨t, World.alloc_heap_new w (.cells cs t)⟩
theorem BoxAt.here2 {w : World} {o : Obj} {cs : Array Value} {t : TypeId} : BoxAt ((w.alloc o).alloc (.cells cs t)) (w.heap.size + 1) cs := by
  have := World.alloc_heap_new (w.alloc o) (.cells cs t)
  exact ⟨t, by simpa using this⟩
theorem BoxAt.here3 {w : World} {o o' : Obj} {cs : Array Value} {t : TypeId} : BoxAt (((w.alloc o).alloc o').alloc (.cells cs t)) (w.heap.size + 1 + 1) cs := by
  have := World.alloc_heap_new ((w.alloc o).alloc o') (.cells cs t)
  exact ⟨t, by simpa using this⟩
theorem BoxAt.below {w w' : World} {b : Nat} {cs : Array Value} (h : BoxAt w b cs) (hb : Below w.heap.size w w') : BoxAt w' b cs := by
  obtain ⟨t, ht⟩ := h
  exact ⟨t, (hb.block b (Array.getElem?_eq_some_iff.1 ht).1).trans ht⟩
theorem BoxAt.al {w : World} {b : Nat} {cs : Array Value} {o : Obj} (h : BoxAt w b cs) : BoxAt (w.alloc o) b cs := h.below ((Below.refl _ _).alloc (Nat.le_refl _) o)
theorem BoxAt.dr {w : World} {b : Nat} {cs : Array Value} (h : BoxAt w b cs) : BoxAt w.drew b cs := h
theorem BoxAt.cell {w : World} {b : Nat} {cs : Array Value} (h : BoxAt w b cs) {i : Nat} {v : Value} (hv : cs[i]? = some v) : w.cell? ⟨b, i, none⟩ = some v := by
  obtain ⟨t, ht⟩ := h
  simp only [World.cell?, ht]; exact hv
theorem BoxAt.lt {w : World} {b : Nat} {cs : Array Value} (h : BoxAt w b cs) : b < w.heap.size := by
  obtain ⟨t, ht⟩ := h
  exact (Array.getElem?_eq_some_iff.1 ht).1
theorem BoxAt.frozen {w : World} {b : Nat} {cs : Array Value} (h : BoxAt w b cs) (i : Nat) : w.frozen? ⟨b, i, none⟩ = false := by
  obtain ⟨t, ht⟩ := h
  simp [World.frozen?, ht]
theorem BoxAt.boxes {w : World} {b : Nat} {cs : Array Value} (h : BoxAt w b cs) : Boxes w [(b, cs.toList)] := by
  obtain ⟨t, ht⟩ := h
  exact Boxes.cons (t := t) (by simpa using ht) (Boxes.nil w)
/-- A row of the call's own does not stand in a box that holds something else. -/
theorem own_not_box {w : World} {base : Nat} {e : TypeId} {sz : Nat} {a : Option Addr} {n c b : Nat} {xs : List Value} {cs : Array Value} (ho : w.ownsRow base e sz (.slice a n c) n xs) (hx : BoxAt w b cs) (hne : ∃ i, i < xs.length ∧ cs[i]? ≠ xs[i]?) : ∀ g off, a = some ⟨g, off, none⟩ → g ≠ b := by
  intro g' off' e' he
  rcases ho.2 with ⟨h, h0⟩ | ⟨g, cap, cur, h, hb, hg, hn, hm, hc, ht⟩
  · cases h; cases e'
  · cases h
    cases e'
    obtain ⟨t, hh⟩ := hx
    rw [← he, hg] at hh
    cases hh
    obtain ⟨i, hi, hne⟩ := hne
    have hl := ho.1
    have e1 : (cs.toList.take (n * sz))[i]? = cs.toList[i]? := List.getElem?_take_of_lt (by omega)
    rw [ht] at e1
    exact hne (by rw [e1, Array.getElem?_toList])
theorem zero_lt {W w' : World} {b : Nat} {cs : Array Value} (hx : BoxAt W b cs) (hb : Below W.heap.size W w') : BoxAt w' b cs ∧ b < W.heap.size := ⟨hx.below hb, hx.lt⟩
theorem raws_box2 {sz : Nat} {w : World} {b : Nat} {a1 a2 : Option Addr} {n1 c1 n2 c2 : Nat} {L1 L2 : List (Cl sz)} (h : BoxAt w b #[.slice a1 n1 c1, .slice a2 n2 c2]) (h1 : Raw sz w a1 n1 c1 L1) (h2 : Raw sz w a2 n2 c2 L2) :
    Raws sz w (some ⟨b, 0, none⟩) 2 2 [L1, L2] := by
  refine ⟨rfl, Nat.le_refl _, by unfold maxLen; omega, (fun h => by cases h), .inr ⟨_, _, rfl, h.lt, fun i L hL => ?_⟩⟩
  match i, hL with
  | 0, hL =>
    cases hL
    refine ⟨_, rfl, ⟨_, _, _, rfl, h1⟩, fun j v hj => ?_⟩
    cases j with
    | zero => simp at hj; subst hj; exact h.cell rfl
    | succ j => simp at hj
  | 1, hL =>
    cases hL
    refine ⟨_, rfl, ⟨_, _, _, rfl, h2⟩, fun j v hj => ?_⟩
    cases j with
    | zero => simp at hj; subst hj; exact h.cell rfl
    | succ j => simp at hj
  | i + 2, hL => simp at hL
/-- A row of one or two elements that a call has just laid. -/
theorem raw_box {sz : Nat} {w : World} {b : Nat} {L : List (Cl sz)} (h : BoxAt w b (flatC L).toArray) (hl : L.length ≤ 1000) : Raw sz w (some ⟨b, 0, none⟩) L.length L.length L := by
  refine ⟨rfl, Nat.le_refl _, by unfold maxLen; omega, (fun h => by cases h), .inr ⟨_, _, rfl, h.lt, fun i y hy => ⟨y.1, y.2.1, rfl, fun j v hv => ?_⟩⟩⟩
  have := flat_get (fun y : Cl sz => y.1) sz (fun y => y.2.1) L i y j v hy hv
  rw [Nat.zero_add]
  exact h.cell (by simpa [flatC] using this)
end Go.Proofs.YtpghlmcoajaiiaaGreatDoor

/- Trees that may be: plain laws; no program in sight. -/
namespace Go.Proofs.YtpghlmcoajaiiaaGreatDoor

def keyOk (k : List UInt8) : Prop := k ≠ [] ∧ k.length ≤ 16
def valOk (v : Tv) : Prop := v.data.length ≤ 400 ∧ (v.pages ≠ [] → 16 < v.data.length)
/-- Below a key, if that isn't empty. -/
def ltH (hi k : List UInt8) : Prop := hi = [] ∨ k < hi
theorem ltH.of {hi k j : List UInt8} (h : ltH hi k) (hj : j < k) : ltH hi j := h.imp id (klt_trans hj)
/-- The kids of a branch: each within its span. -/
def KidsP (P : List UInt8 → List UInt8 → Tr → Prop) : List UInt8 → List UInt8 → List (List UInt8 × Tr) → Prop
  | _, _, [] => False
  | lo, hi, [c] => P lo hi c.2
  | lo, hi, c :: d :: r => P lo d.1 c.2 ∧ keyOk d.1 ∧ lo < d.1 ∧ ltH hi d.1 ∧ KidsP P d.1 hi (d :: r)
def LeafOk (lo hi : List UInt8) (l : List (List UInt8 × Tv)) : Prop :=
  (keysOf l).Pairwise (fun a b => a < b) ∧ ∀ c ∈ l, keyOk c.1 ∧ ¬ c.1 < lo ∧ ltH hi c.1 ∧ valOk c.2
/-- What a node may hold, whatever its cells come to. -/
def Shape : Nat → List UInt8 → List UInt8 → Tr → Prop
  | 0, _, _, _ => False
  | n + 1, lo, hi, .leaf _ l => n = 0 ∧ LeafOk lo hi l
  | n + 1, lo, hi, .node _ l => KidsP (fun lo hi t => Shape n lo hi t ∧ 30 ≤ sumT t ∧ sumT t ≤ 122) lo hi l ∧ keyAt l 0 = []
def Good (n : Nat) (lo hi : List UInt8) (t : Tr) : Prop := Shape n lo hi t ∧ 30 ≤ sumT t ∧ sumT t ≤ 122

section
variable {P : List UInt8 → List UInt8 → Tr → Prop}
theorem kids_first {lo hi : List UInt8} {k k' : List UInt8} {t : Tr} {r : List (List UInt8 × Tr)} (h : KidsP P lo hi ((k, t) :: r)) : KidsP P lo hi ((k', t) :: r) := by
  cases r <;> exact h
theorem kids_split {hi : List UInt8} {d : List UInt8 × Tr} {b : List (List UInt8 × Tr)} : ∀ {a : List (List UInt8 × Tr)} {c : List UInt8 × Tr} {lo : List UInt8}, KidsP P lo hi (c :: a ++ d :: b) →
    KidsP P lo d.1 (c :: a) ∧ keyOk d.1 ∧ lo < d.1 ∧ ltH hi d.1 ∧ KidsP P d.1 hi (d :: b)
  | [], c, lo, h => h
  | e :: a, c, lo, h => by
    obtain ⟨h1, h2, h3, h4, h5⟩ := h
    obtain ⟨g1, g2, g3, g4, g5⟩ := kids_split (a := a) (c := e) (lo := e.1) h5
    exact ⟨⟨h1, h2, h3, .inr g3, g1⟩, g2, klt_trans h3 g3, g4, g5⟩
theorem kids_glue {hi : List UInt8} {d : List UInt8 × Tr} {b : List (List UInt8 × Tr)} : ∀ {a : List (List UInt8 × Tr)} {c : List UInt8 × Tr} {lo : List UInt8}, KidsP P lo d.1 (c :: a) → keyOk d.1 → lo < d.1 → ltH hi d.1 → KidsP P d.1 hi (d :: b) →
    KidsP P lo hi (c :: a ++ d :: b)
  | [], c, lo, h1, h2, h3, h4, h5 => ⟨h1, h2, h3, h4, h5⟩
  | e :: a, c, lo, h1, h2, h3, h4, h5 => by
    obtain ⟨g1, g2, g3, g4, g5⟩ := h1
    have g6 : e.1 < d.1 := g4.resolve_left h2.1
    exact ⟨g1, g2, g3, h4.of g6, kids_glue g5 h2 g6 h4 h5⟩
theorem kids_ne {lo hi : List UInt8} {l : List (List UInt8 × Tr)} (h : KidsP P lo hi l) : l ≠ [] := by
  intro e; subst e; exact h
/-- A kid's surroundings. -/
def Ctx (P : List UInt8 → List UInt8 → Tr → Prop) (lo hi : List UInt8) (a b : List (List UInt8 × Tr)) (k lo' hi' : List UInt8) : Prop :=
  ((a = [] ∧ lo' = lo) ∨ (a ≠ [] ∧ KidsP P lo k a ∧ keyOk k ∧ lo < k ∧ lo' = k)) ∧
  ((b = [] ∧ hi' = hi) ∨ ∃ d r, b = d :: r ∧ hi' = d.1 ∧ keyOk d.1 ∧ ltH hi d.1 ∧ KidsP P d.1 hi b) ∧
  (a ≠ [] ∨ b ≠ [] → ltH hi' lo')
theorem kids_focus {lo hi : List UInt8} {a b : List (List UInt8 × Tr)} {c : List UInt8 × Tr} (h : KidsP P lo hi (a ++ c :: b)) : ∃ lo' hi', Ctx P lo hi a b c.1 lo' hi' ∧ P lo' hi' c.2 := by
  cases a with
  | nil =>
    cases b with
    | nil => exact ⟨lo, hi, ⟨.inl ⟨rfl, rfl⟩, .inl ⟨rfl, rfl⟩, fun h => by rcases h with h | h <;> exact absurd rfl h⟩, h⟩
    | cons d r =>
      obtain ⟨h1, h2, h3, h4, h5⟩ := h
      exact ⟨lo, d.1, ⟨.inl ⟨rfl, rfl⟩, .inr ⟨d, r, rfl, rfl, h2, h4, h5⟩, fun _ => .inr h3⟩, h1⟩
  | cons e a =>
    obtain ⟨g1, g2, g3, g4, g5⟩ := kids_split h
    cases b with
    | nil => exact ⟨c.1, hi, ⟨.inr ⟨by simp, g1, g2, g3, rfl⟩, .inl ⟨rfl, rfl⟩, fun _ => g4⟩, g5⟩
    | cons d r =>
      obtain ⟨h1, h2, h3, h4, h5⟩ := g5
      exact ⟨c.1, d.1, ⟨.inr ⟨by simp, g1, g2, g3, rfl⟩, .inr ⟨d, r, rfl, rfl, h2, h4, h5⟩, fun _ => .inr h3⟩, h1⟩
theorem kids_plug {lo hi : List UInt8} {a b : List (List UInt8 × Tr)} {k lo' hi' : List UInt8} (hc : Ctx P lo hi a b k lo' hi') {t : Tr} {m : List (List UInt8 × Tr)} (hm : KidsP P lo' hi' ((k, t) :: m)) : KidsP P lo hi (a ++ ((k, t) :: m ++ b)) := by
  obtain ⟨h1, h2, h3⟩ := hc
  have hmb : KidsP P lo' hi ((k, t) :: m ++ b) := by
    rcases h2 with ⟨rfl, rfl⟩ | ⟨d, r, rfl, rfl, g1, g2, g3⟩
    · rw [List.append_nil]; exact hm
    · exact kids_glue hm g1 ((h3 (.inr (by simp))).resolve_left g1.1) g2 g3
  rcases h1 with ⟨rfl, rfl⟩ | ⟨ha, g1, g2, g3, rfl⟩
  · exact hmb
  · cases a with
    | nil => exact absurd rfl ha
    | cons e a =>
      refine kids_glue (d := (lo', t)) (b := m ++ b) g1 g2 g3 ?_ hmb
      have h5 := h3 (.inl ha)
      rcases h2 with ⟨rfl, rfl⟩ | ⟨d, r, rfl, rfl, e1, e2, e3⟩
      · exact h5
      · exact e2.of (h5.resolve_left e1.1)
end

/-! cells' sizes -/
theorem vSz_le (v : Tv) : vSz v ≤ 16 := by unfold vSz; split <;> omega
theorem sum_leaf (p : Int) (l : List (List UInt8 × Tv)) : sumT (.leaf p l) = sumI (l.map fun c => ((3 + vSz c.2 + c.1.length : Nat) : Int)) := rfl
theorem sum_node (p : Int) (l : List (List UInt8 × Tr)) : sumT (.node p l) = sumI (l.map fun c => ((4 + c.1.length : Nat) : Int)) := rfl
theorem sum_node_append (p q r : Int) (a b : List (List UInt8 × Tr)) : sumT (.node p (a ++ b)) = sumT (.node q a) + sumT (.node r b) := by
  simp only [sum_node, List.map_append, sumI_append]
theorem sum_node_cons (p q : Int) (c : List UInt8 × Tr) (b : List (List UInt8 × Tr)) : sumT (.node p (c :: b)) = ((4 + c.1.length : Nat) : Int) + sumT (.node q b) := by
  simp only [sum_node, List.map_cons, sumI_cons]
theorem sum_node_nil (p : Int) : sumT (.node p []) = 0 := rfl
theorem sum_leaf_append (p q r : Int) (a b : List (List UInt8 × Tv)) : sumT (.leaf p (a ++ b)) = sumT (.leaf q a) + sumT (.leaf r b) := by
  simp only [sum_leaf, List.map_append, sumI_append]
theorem sum_leaf_cons (p q : Int) (c : List UInt8 × Tv) (b : List (List UInt8 × Tv)) : sumT (.leaf p (c :: b)) = ((3 + vSz c.2 + c.1.length : Nat) : Int) + sumT (.leaf q b) := by
  simp only [sum_leaf, List.map_cons, sumI_cons]
theorem sumI_nonneg {l : List Int} (h : ∀ x ∈ l, 0 ≤ x) : 0 ≤ sumI l := by
  induction l with
  | nil => simp [sumI_nil]
  | cons x l ih =>
    rw [sumI_cons]
    have := h x (by simp)
    have := ih (fun y hy => h y (by simp [hy]))
    omega
theorem sizes_nonneg (t : Tr) : ∀ x ∈ sizesT t, 0 ≤ x := by
  cases t <;> (intro x hx; obtain ⟨c, _, rfl⟩ := List.mem_map.1 hx; omega)
theorem sumT_nonneg (t : Tr) : 0 ≤ sumT t := sumI_nonneg (sizes_nonneg t)
/-- A place at which parts are best comes out within a cell. -/
theorem cut_bal {l : List Int} (h : Small l) {c : Int} (hc : ∀ x ∈ l, x ≤ c) (hc1 : 0 ≤ c ∧ c ≤ 100) (h1 : 122 < sumI l) {m : Nat} (hl : ∀ k, 1 ≤ k → k < l.length → worse l m ≤ worse l k) :
    2 * worse l m ≤ sumI l + c := by
  obtain ⟨k, hk, ha, hb⟩ := first_half l h (by omega)
  have hs := sumI_take_succ l k hk
  have hx : l[k]?.getD 0 ≤ c := by simp [hk]; exact hc _ (List.getElem_mem hk)
  have w0 := (h.take k).bd
  have hlow := worse_lo (l := l) m
  by_cases hd : 2 * sumI (l.take (k + 1)) ≤ sumI l + c
  · have hk1 : k + 1 < l.length := by
      by_cases e : k + 1 = l.length
      · rw [e, sumI_take_all] at hd; omega
      · omega
    have := hl (k + 1) (by omega) hk1
    have := worse_lo (l := l) (k + 1)
    omega
  · have hk0 : 1 ≤ k := by
      by_cases e : k = 0
      · subst e; simp [sumI_nil] at *; omega
      · omega
    have := hl k hk0 hk
    have := worse_lo (l := l) k
    omega
/-- Where cells of 36 at most, that are 200 together at most, are parted. -/
theorem cut_parts {l : List Int} (hlen : l.length ≤ 1000) (h0 : ∀ x ∈ l, 0 ≤ x ∧ x ≤ 36) (hsum : sumI l ≤ 200) : (atF l = 0 ∧ sumI l ≤ 122) ∨
    ∃ m : Nat, 1 ≤ m ∧ m < l.length ∧ atF l = (m : Int) ∧ 122 < sumI l ∧ sumI (l.take m) ≤ 122 ∧ sumI (l.drop m) ≤ 122 ∧ ∀ c : Int, 0 ≤ c → (∀ x ∈ l, x ≤ c) → sumI l - c ≤ 2 * sumI (l.take m) ∧ sumI l - c ≤ 2 * sumI (l.drop m) := by
  have hS : Small l := ⟨hlen, fun x hx => by have := h0 x hx; omega⟩
  rcases atF_cases hS with ⟨e, hc⟩ | ⟨h1, m, g1, g2, g3, g4⟩
  · left
    refine ⟨e, ?_⟩
    rcases hc with hc | hc
    · exact hc
    · match l, hc, h0 with
      | [], _, _ => simp [sumI_nil]
      | [x], _, h0 => rw [sumI_cons, sumI_nil]; have := h0 x (by simp); omega
      | _ :: _ :: _, hc, _ => simp at hc; omega
  · right
    have hb := cut_bal hS (c := 36) (fun x hx => (h0 x hx).2) (by omega) h1 (m := m) (fun k a b => (g4 k a b).1)
    have hw := worse_lo (l := l) m
    refine ⟨m, g1, g2, g3, h1, by omega, by omega, fun c hc0 hc => ?_⟩
    by_cases hc9 : c ≤ 100
    · have := cut_bal hS (c := c) hc ⟨hc0, hc9⟩ h1 (m := m) (fun k a b => (g4 k a b).1)
      omega
    · have h5 := sumI_nonneg (l := l.take m) (fun x hx => (h0 x (List.mem_of_mem_take hx)).1)
      have h6 := sumI_nonneg (l := l.drop m) (fun x hx => (h0 x (List.mem_of_mem_drop hx)).1)
      omega
end Go.Proofs.YtpghlmcoajaiiaaGreatDoor

/- Trees that may be: parted, put together, mended. -/
namespace Go.Proofs.YtpghlmcoajaiiaaGreatDoor

theorem keyAt_at {α : Type} (a b : List (List UInt8 × α)) (c : List UInt8 × α) : keyAt (a ++ c :: b) a.length = c.1 := by simp [keyAt]
theorem kidAt_at (a b : List (List UInt8 × Tr)) (c : List UInt8 × Tr) : kidAt (a ++ c :: b) a.length = c.2 := by simp [kidAt]
theorem list_at {α : Type} {l : List α} {k : Nat} (h : k < l.length) : ∃ a c b, l = a ++ c :: b ∧ a.length = k := by
  refine ⟨l.take k, l[k], l.drop (k + 1), ?_, by simp; omega⟩
  simp
theorem kids_keys {P : List UInt8 → List UInt8 → Tr → Prop} : ∀ {r : List (List UInt8 × Tr)} {c : List UInt8 × Tr} {lo hi : List UInt8}, KidsP P lo hi (c :: r) → ∀ d ∈ r, keyOk d.1
  | [], _, _, _, _, d, hd => by cases hd
  | e :: r, _, _, _, h, d, hd => by
    rcases List.mem_cons.1 hd with rfl | hd
    · exact h.2.1
    · exact kids_keys h.2.2.2.2 d hd
theorem shape_kids {n : Nat} {lo hi : List UInt8} {p : Int} {l : List (List UInt8 × Tr)} (h : Shape (n + 1) lo hi (.node p l)) : KidsP (Good n) lo hi l ∧ keyAt l 0 = [] := h
theorem shape_node {n : Nat} {lo hi : List UInt8} {p : Int} {l : List (List UInt8 × Tr)} (h : KidsP (Good n) lo hi l) (h0 : keyAt l 0 = []) : Shape (n + 1) lo hi (.node p l) := ⟨h, h0⟩
theorem kids_good0 {lo hi : List UInt8} {l : List (List UInt8 × Tr)} (h : KidsP (Good 0) lo hi l) : False := by
  match l, h with
  | [_], h => exact h.1
  | _ :: _ :: _, h => exact h.1.1
/-- A node's cells' sizes. -/
theorem node_cells {P : List UInt8 → List UInt8 → Tr → Prop} {lo hi : List UInt8} {p : Int} {l : List (List UInt8 × Tr)} (h : KidsP P lo hi l) (h0 : keyAt l 0 = []) : ∀ x ∈ sizesT (.node p l), 4 ≤ x ∧ x ≤ 20 := by
  intro x hx
  obtain ⟨c, hc, rfl⟩ := List.mem_map.1 hx
  cases l with
  | nil => exact absurd h (by simp [KidsP])
  | cons e r =>
    rcases List.mem_cons.1 hc with rfl | hc
    · have : c.1 = [] := by simpa [keyAt] using h0
      rw [this]; simp
    · have := (kids_keys h c hc).2
      omega
theorem leaf_cells {lo hi : List UInt8} {p : Int} {l : List (List UInt8 × Tv)} (h : LeafOk lo hi l) : ∀ x ∈ sizesT (.leaf p l), 4 ≤ x ∧ x ≤ 35 := by
  intro x hx
  obtain ⟨c, hc, rfl⟩ := List.mem_map.1 hx
  obtain ⟨h1, _⟩ := h.2 c hc
  have h2 := vSz_le c.2
  have h3 := h1.2
  have h4 : 0 < c.1.length := List.length_pos_iff.2 h1.1
  omega
theorem shape_cells {n : Nat} {lo hi : List UInt8} {t : Tr} (h : Shape n lo hi t) : ∀ x ∈ sizesT t, 4 ≤ x ∧ x ≤ 35 := by
  cases n with
  | zero => exact h.elim
  | succ n =>
    cases t with
    | leaf p l => exact leaf_cells h.2
    | node p l => exact fun x hx => by have := node_cells (shape_kids h).1 (shape_kids h).2 x hx; omega
theorem len_sum {l : List Int} (h : ∀ x ∈ l, 4 ≤ x) : 4 * (l.length : Int) ≤ sumI l := by
  induction l with
  | nil => simp [sumI_nil]
  | cons x l ih =>
    have h1 := h x (by simp)
    have h2 := ih (fun y hy => h y (by simp [hy]))
    rw [sumI_cons]; simp only [List.length_cons]; omega
theorem shape_parts {n : Nat} {lo hi : List UInt8} {t : Tr} (h : Shape n lo hi t) (hs : sumT t ≤ 200) : (atF (sizesT t) = 0 ∧ sumT t ≤ 122) ∨
    ∃ m : Nat, 1 ≤ m ∧ m < (sizesT t).length ∧ atF (sizesT t) = (m : Int) ∧ 122 < sumT t ∧ sumI ((sizesT t).take m) ≤ 122 ∧ sumI ((sizesT t).drop m) ≤ 122 ∧ ∀ c : Int, 0 ≤ c → (∀ x ∈ sizesT t, x ≤ c) → sumT t - c ≤ 2 * sumI ((sizesT t).take m) ∧ sumT t - c ≤ 2 * sumI ((sizesT t).drop m) := by
  have h1 := shape_cells h
  have h2 := len_sum (fun x hx => (h1 x hx).1)
  have hs' : sumI (sizesT t) ≤ 200 := hs
  exact cut_parts (by omega) (fun x hx => by have := h1 x hx; omega) hs'
theorem sizes_len_leaf (p : Int) (l : List (List UInt8 × Tv)) : (sizesT (.leaf p l)).length = l.length := by simp [sizesT]
theorem sizes_len_node (p : Int) (l : List (List UInt8 × Tr)) : (sizesT (.node p l)).length = l.length := by simp [sizesT]

/-- Both parts may be. -/
theorem part_ok {n : Nat} {lo hi : List UInt8} {t : Tr} (h : Shape n lo hi t) (hs : sumT t ≤ 200) (hat : atF (sizesT t) ≠ 0) :
    Good n lo (partT (atF (sizesT t)).toNat t).2.2 (partT (atF (sizesT t)).toNat t).1 ∧ keyOk (partT (atF (sizesT t)).toNat t).2.2 ∧ lo < (partT (atF (sizesT t)).toNat t).2.2 ∧ ltH hi (partT (atF (sizesT t)).toNat t).2.2 ∧ Good n (partT (atF (sizesT t)).toNat t).2.2 hi (partT (atF (sizesT t)).toNat t).2.1 := by
  rcases shape_parts h hs with ⟨e, _⟩ | ⟨m, h1, h2, h3, h4, h5, h6, h7⟩
  · exact absurd e hat
  rw [h3, Int.toNat_natCast]
  cases n with
  | zero => exact h.elim
  | succ n =>
    cases t with
    | leaf p l =>
      obtain ⟨rfl, hp, hl⟩ := h
      rw [sizes_len_leaf] at h2
      obtain ⟨a, d, b, rfl, rfl⟩ := list_at h2
      have hc := leaf_cells (p := p) ⟨hp, hl⟩
      obtain ⟨g1, g2⟩ := h7 35 (by omega) (fun x hx => (hc x hx).2)
      have ek : keyAt (a ++ d :: b) a.length = d.1 := keyAt_at a b d
      have et : (a ++ d :: b).take a.length = a := List.take_left
      have ed : (a ++ d :: b).drop a.length = d :: b := List.drop_left
      have st : sumI ((sizesT (.leaf p (a ++ d :: b))).take a.length) = sumT (.leaf 0 a) := by
        simp only [sizesT, sumT, ← List.map_take, et]
      have sd : sumI ((sizesT (.leaf p (a ++ d :: b))).drop a.length) = sumT (.leaf 0 (d :: b)) := by
        simp only [sizesT, sumT, ← List.map_drop, ed]
      rw [st] at h5 g1
      rw [sd] at h6 g2
      simp only [partT, ek, et, ed]
      unfold keysOf at hp
      rw [List.map_append, List.map_cons, List.pairwise_append, List.pairwise_cons] at hp
      obtain ⟨q1, ⟨q2, q3⟩, q4⟩ := hp
      have hd := hl d (by simp)
      have hlt : ∀ c ∈ a, c.1 < d.1 := fun c hc => q4 c.1 (List.mem_map_of_mem hc) d.1 (by simp)
      obtain ⟨c0, hc0⟩ : ∃ c0, c0 ∈ a := by
        cases a with
        | nil => simp at h1
        | cons c0 r => exact ⟨c0, by simp⟩
      refine ⟨⟨⟨rfl, q1, fun c hc => ?_⟩, by omega, h5⟩, hd.1, kle_lt (hl c0 (by simp [hc0])).2.1 (hlt c0 hc0), hd.2.2.1, ⟨⟨rfl, ?_, fun c hc => ?_⟩, by omega, h6⟩⟩
      · have := hl c (by simp [hc])
        exact ⟨this.1, this.2.1, .inr (hlt c hc), this.2.2.2⟩
      · exact List.pairwise_cons.2 ⟨q2, q3⟩
      · have := hl c (List.mem_append_right _ hc)
        refine ⟨this.1, ?_, this.2.2.1, this.2.2.2⟩
        rcases List.mem_cons.1 hc with rfl | hc
        · exact klt_irrefl _
        · exact klt_asymm (q2 c.1 (List.mem_map_of_mem hc))
    | node p l =>
      obtain ⟨hk, h0⟩ := shape_kids h
      rw [sizes_len_node] at h2
      obtain ⟨a, d, b, rfl, rfl⟩ := list_at h2
      have hc := node_cells (p := p) hk h0
      obtain ⟨g1, g2⟩ := h7 20 (by omega) (fun x hx => (hc x hx).2)
      have ek : keyAt (a ++ d :: b) a.length = d.1 := keyAt_at a b d
      have et : (a ++ d :: b).take a.length = a := List.take_left
      have ed : (a ++ d :: b).drop a.length = d :: b := List.drop_left
      have st : sumI ((sizesT (.node p (a ++ d :: b))).take a.length) = sumT (.node 0 a) := by
        simp only [sizesT, sumT, ← List.map_take, et]
      have sd : sumI ((sizesT (.node p (a ++ d :: b))).drop a.length) = sumT (.node 0 (d :: b)) := by
        simp only [sizesT, sumT, ← List.map_drop, ed]
      rw [st] at h5 g1
      rw [sd, sum_node_cons 0 0] at h6 g2
      simp only [partT, ek, et, ed, firstK]
      cases a with
      | nil => simp at h1
      | cons e a =>
        obtain ⟨q1, q2, q3, q4, q5⟩ := kids_split hk
        have q6 := q2.2
        have e0 : keyAt (e :: a) 0 = [] := by simpa [keyAt] using h0
        refine ⟨⟨shape_node q1 e0, by omega, h5⟩, q2, q3, q4, ⟨shape_node (kids_first q5) (by simp [keyAt]), ?_, ?_⟩⟩
        · rw [sum_node_cons 0 0]; simp; omega
        · rw [sum_node_cons 0 0]; simp; omega
/-- Two neighbours put together. -/
theorem join_ok {n : Nat} {lo k hi : List UInt8} {s t : Tr} (hs : Shape n lo k s) (ht : Shape n k hi t) (hk : keyOk k) (hlo : lo < k) (hhi : ltH hi k) :
    Shape n lo hi (joinT k s t) ∧ sumT s + sumT t ≤ sumT (joinT k s t) ∧ sumT (joinT k s t) ≤ sumT s + sumT t + 16 := by
  cases n with
  | zero => exact hs.elim
  | succ n =>
    cases s with
    | leaf p l =>
      obtain ⟨rfl, hp, hl⟩ := hs
      cases t with
      | leaf q m =>
        obtain ⟨_, hq, hm⟩ := ht
        refine ⟨⟨rfl, ?_, fun c hc => ?_⟩, ?_, ?_⟩
        · unfold keysOf at *
          rw [List.map_append, List.pairwise_append]
          refine ⟨hp, hq, fun x hx y hy => ?_⟩
          obtain ⟨c, hc, rfl⟩ := List.mem_map.1 hx
          obtain ⟨d, hd, rfl⟩ := List.mem_map.1 hy
          exact klt_le ((hl c hc).2.2.1.resolve_left hk.1) (hm d hd).2.1
        · rcases List.mem_append.1 hc with hc | hc
          · have := hl c hc
            exact ⟨this.1, this.2.1, hhi.of (this.2.2.1.resolve_left hk.1), this.2.2.2⟩
          · have := hm c hc
            exact ⟨this.1, fun h => this.2.1 (klt_trans h hlo), this.2.2.1, this.2.2.2⟩
        · simp only [joinT]; rw [sum_leaf_append 0 p q]; omega
        · simp only [joinT]; rw [sum_leaf_append 0 p q]; omega
      | node q m => exact (kids_good0 (shape_kids ht).1).elim
    | node p l =>
      cases t with
      | leaf q m =>
        obtain ⟨rfl, _⟩ := ht
        exact (kids_good0 (shape_kids hs).1).elim
      | node q m =>
        obtain ⟨h1, h0⟩ := shape_kids hs
        obtain ⟨g1, g0⟩ := shape_kids ht
        cases l with
        | nil => exact h1.elim
        | cons c l =>
          cases m with
          | nil => exact g1.elim
          | cons d m =>
            have d0 : d.1 = [] := by simpa [keyAt] using g0
            simp only [joinT, firstK]
            refine ⟨shape_node (kids_glue (d := (k, d.2)) h1 hk hlo hhi (kids_first g1)) (by simpa [keyAt] using h0), ?_, ?_⟩
            · rw [sum_node_append 0 p 0, sum_node_cons 0 0 (k, d.2), sum_node_cons q 0 d, d0]; simp; omega
            · have := hk.2
              rw [sum_node_append 0 p 0, sum_node_cons 0 0 (k, d.2), sum_node_cons q 0 d, d0]; simp; omega

theorem splitT_at (a b : List (List UInt8 × Tr)) (k : List UInt8) (t : Tr) : splitT (a ++ (k, t) :: b) a.length =
    if atF (sizesT t) = 0 then none else some (a ++ ((k, (partT (atF (sizesT t)).toNat t).1) :: ((partT (atF (sizesT t)).toNat t).2.2, (partT (atF (sizesT t)).toNat t).2.1) :: b)) := by
  unfold splitT
  rw [kidAt_at, keyAt_at, List.take_left]
  have : (a ++ (k, t) :: b).drop (a.length + 1) = b := by
    rw [List.drop_append, List.drop_of_length_le (by omega)]; simp
  rw [this]
/-- A kid that may be but for what its cells come to, parted if it must be. -/
theorem split_ok {n : Nat} {lo hi lo' hi' k : List UInt8} {a b : List (List UInt8 × Tr)} {t : Tr} (hc : Ctx (Good n) lo hi a b k lo' hi') (hs : Shape n lo' hi' t) (hsum : sumT t ≤ 200) (h30 : 30 ≤ sumT t) (h0 : keyAt (a ++ (k, t) :: b) 0 = []) :
    ∃ m, (splitT (a ++ (k, t) :: b) a.length = some m ∨ (splitT (a ++ (k, t) :: b) a.length = none ∧ m = a ++ (k, t) :: b)) ∧ KidsP (Good n) lo hi m ∧ keyAt m 0 = [] ∧ sumT (.node 0 m) ≤ sumT (.node 0 (a ++ (k, t) :: b)) + 20 ∧ (a ++ (k, t) :: b).length ≤ m.length ∧ (splitT (a ++ (k, t) :: b) a.length = none → atF (sizesT t) = 0) := by
  rw [splitT_at]
  by_cases hat : atF (sizesT t) = 0
  · rw [if_pos hat]
    rcases shape_parts hs hsum with ⟨_, h1⟩ | ⟨m, h1, _, h3, _⟩
    · refine ⟨_, .inr ⟨rfl, rfl⟩, ?_, h0, by omega, Nat.le_refl _, fun _ => hat⟩
      have := kids_plug (m := []) hc (t := t) ⟨hs, h30, h1⟩
      simpa using this
    · omega
  · rw [if_neg hat]
    obtain ⟨p1, p2, p3, p4, p5⟩ := part_ok hs hsum hat
    refine ⟨_, .inl rfl, ?_, ?_, ?_, by simp, fun h => by cases h⟩
    · have := kids_plug (m := [((partT (atF (sizesT t)).toNat t).2.2, (partT (atF (sizesT t)).toNat t).2.1)]) hc (t := (partT (atF (sizesT t)).toNat t).1) ⟨p1, p2, p3, p4, p5⟩
      simpa using this
    · cases a <;> simpa [keyAt] using h0
    · have := p2.2
      rw [sum_node_append 0 0 0, sum_node_cons 0 0, sum_node_cons 0 0, sum_node_append 0 0 0 a, sum_node_cons 0 0]
      simp only
      omega
end Go.Proofs.YtpghlmcoajaiiaaGreatDoor

/- Trees that may be: mended; a key's value put. -/
namespace Go.Proofs.YtpghlmcoajaiiaaGreatDoor

theorem good_len {n : Nat} {lo hi : List UInt8} {p : Int} {l : List (List UInt8 × Tr)} (h : Good n lo hi (.node p l)) : 2 ≤ l.length := by
  cases n with
  | zero => exact h.1.elim
  | succ n =>
    have h0 := (shape_kids h.1).2
    have h1 := h.2.1
    match l, h0, h1, kids_ne (shape_kids h.1).1 with
    | [c], h0, h1, _ =>
      have : c.1 = [] := by simpa [keyAt] using h0
      rw [sum_node_cons p p, sum_node_nil, this] at h1
      simp at h1
    | _ :: _ :: _, _, _, _ => simp
/-- What is behind a kid's own place goes on without it. -/
theorem ctx_right {P : List UInt8 → List UInt8 → Tr → Prop} {lo hi lo' hi' k : List UInt8} {a r : List (List UInt8 × Tr)} {d : List UInt8 × Tr} (hc : Ctx P lo hi a (d :: r) k lo' hi') : ∃ hi'', Ctx P lo hi a r k lo' hi'' ∧ P d.1 hi'' d.2 ∧ hi' = d.1 ∧ keyOk d.1 ∧ lo' < d.1 ∧ ltH hi'' d.1 := by
  obtain ⟨h1, h2, h3⟩ := hc
  rcases h2 with ⟨h, _⟩ | ⟨d', r', e, rfl, g1, g2, g3⟩
  · cases h
  cases e
  obtain ⟨lo'', hi'', hq, hp⟩ := kids_focus (a := []) (c := d) (b := r) g3
  obtain ⟨q1, q2, q3⟩ := hq
  obtain rfl : lo'' = d.1 := by
    rcases q1 with ⟨_, e⟩ | ⟨e, _⟩
    · exact e
    · exact absurd rfl e
  have hlt : lo' < d.1 := (h3 (.inr (by simp))).resolve_left g1.1
  have hd : ltH hi'' d.1 := by
    rcases q2 with ⟨rfl, rfl⟩ | ⟨d2, r2, rfl, rfl, e1, e2, e3⟩
    · exact g2
    · exact q3 (.inr (by simp))
  exact ⟨hi'', ⟨h1, q2, fun _ => hd.of hlt⟩, hp, rfl, g1, hlt, hd⟩
theorem ctx_left {P : List UInt8 → List UInt8 → Tr → Prop} {lo hi lo' hi' k : List UInt8} {a : List (List UInt8 × Tr)} {e : List UInt8 × Tr} (hc : Ctx P lo hi (a ++ [e]) [] k lo' hi') : ∃ lo'', Ctx P lo hi a [] e.1 lo'' hi ∧ P lo'' k e.2 ∧ hi' = hi ∧ lo' = k ∧ keyOk k ∧ lo'' < k ∧ ltH hi k := by
  obtain ⟨h1, h2, h3⟩ := hc
  rcases h1 with ⟨h, _⟩ | ⟨_, g1, g2, g3, rfl⟩
  · simp at h
  obtain rfl : hi' = hi := by
    rcases h2 with ⟨_, e⟩ | ⟨d, r, e, _⟩
    · exact e
    · cases e
  obtain ⟨lo'', hi'', hq, hp⟩ := kids_focus g1
  obtain ⟨q1, q2, q3⟩ := hq
  obtain rfl : hi'' = lo' := by
    rcases q2 with ⟨_, e⟩ | ⟨d, r, e, _⟩
    · exact e
    · cases e
  have hhi : ltH hi' hi'' := h3 (.inl (by simp))
  have hlt : lo'' < hi'' := by
    rcases q1 with ⟨rfl, rfl⟩ | ⟨ha, _, _, _, rfl⟩
    · exact g3
    · exact (q3 (.inl ha)).resolve_left g2.1
  exact ⟨lo'', ⟨q1, .inl ⟨rfl, rfl⟩, fun _ => hhi.of hlt⟩, hp, rfl, rfl, g2, hlt, hhi⟩
theorem joined_right (a r : List (List UInt8 × Tr)) (c d : List UInt8 × Tr) : joined (a ++ c :: d :: r) a.length = a ++ (c.1, joinT d.1 c.2 d.2) :: r := by
  unfold joined
  have e1 : a ++ c :: d :: r = (a ++ [c]) ++ d :: r := by simp
  have k1 : keyAt (a ++ c :: d :: r) (a.length + 1) = d.1 := by rw [e1]; have := keyAt_at (a ++ [c]) r d; simpa using this
  have k2 : kidAt (a ++ c :: d :: r) (a.length + 1) = d.2 := by rw [e1]; have := kidAt_at (a ++ [c]) r d; simpa using this
  rw [keyAt_at, kidAt_at, k1, k2, List.take_left]
  have : (a ++ c :: d :: r).drop (a.length + 2) = r := by rw [List.drop_append, List.drop_of_length_le (by omega)]; simp
  rw [this]
/-- A branch of which one kid may be but for what its cells come to, mended. -/
theorem mend_ok {n : Nat} {lo hi lo' hi' k : List UInt8} {a b : List (List UInt8 × Tr)} {t : Tr} {p : Int} (hc : Ctx (Good n) lo hi a b k lo' hi') (hs : Shape n lo' hi' t) (hsum : sumT t ≤ 160) (h0 : keyAt (a ++ (k, t) :: b) 0 = []) (hex : 30 ≤ sumT t ∨ a ≠ [] ∨ b ≠ []) :
    ∃ q m, mendT p (a ++ (k, t) :: b) a.length = .node q m ∧ KidsP (Good n) lo hi m ∧ keyAt m 0 = [] ∧ sumT (.node 0 m) ≤ sumT (.node 0 (a ++ (k, t) :: b)) + 20 ∧ (a ++ (k, t) :: b).length ≤ m.length + 1 := by
  by_cases hlow : 30 ≤ sumT t
  · obtain ⟨m, h1, h2, h3, h4, h5, _⟩ := split_ok hc hs (by omega) hlow h0
    unfold mendT
    rcases h1 with h1 | ⟨h1, rfl⟩
    · rw [h1]; exact ⟨0, m, rfl, h2, h3, h4, by omega⟩
    · have hl : lowT (kidAt (a ++ (k, t) :: b) a.length) = false := by rw [kidAt_at]; simp [lowT]; omega
      rw [h1]; simp only; rw [if_pos (.inl hl)]; exact ⟨p, _, rfl, h2, h3, by omega, by omega⟩
  · have hl : lowT (kidAt (a ++ (k, t) :: b) a.length) = true := by rw [kidAt_at]; simp [lowT]; omega
    have hsn : splitT (a ++ (k, t) :: b) a.length = none := by
      rw [splitT_at]
      rcases shape_parts hs (by omega) with ⟨e, _⟩ | ⟨m, _, _, _, h4, _⟩
      · rw [if_pos e]
      · omega
    unfold mendT
    rw [hsn]
    simp only
    cases b with
    | cons d r =>
      rw [if_neg (by rw [hl]; simp; omega)]
      have hj : joinAt (a ++ (k, t) :: d :: r).length a.length = a.length := by unfold joinAt; simp
      rw [hj, joined_right]
      dsimp only
      obtain ⟨hi'', hc2, hg, rfl, hkd, hlo, hhi⟩ := ctx_right hc
      obtain ⟨j1, j2, j3⟩ := join_ok hs hg.1 hkd hlo hhi
      have hg2 := hg.2
      have hnn := sumT_nonneg t
      obtain ⟨m, e1, e2, e3, e4, e5, _⟩ := split_ok hc2 j1 (by omega) (by omega) (by cases a <;> simpa [keyAt] using h0)
      have hd4 : sumT (.node 0 (a ++ (k, joinT d.1 t d.2) :: r)) ≤ sumT (.node 0 (a ++ (k, t) :: d :: r)) := by
        rw [sum_node_append 0 0 0, sum_node_cons 0 0, sum_node_append 0 0 0 a, sum_node_cons 0 0, sum_node_cons 0 0 d]
        simp only
        omega
      rcases e1 with e1 | ⟨e1, rfl⟩
      · rw [e1]; exact ⟨0, m, rfl, e2, e3, by omega, by simp at e5 ⊢; omega⟩
      · rw [e1]; exact ⟨0, _, rfl, e2, e3, by omega, by simp <;> omega⟩
    | nil =>
      rcases List.eq_nil_or_concat a with rfl | ⟨a', e, rfl⟩
      · simp at hex; omega
      · rw [if_neg (by rw [hl]; simp)]
        have hj : joinAt (a'.concat e ++ [(k, t)]).length (a'.concat e).length = a'.length := by unfold joinAt; simp
        have el : a'.concat e ++ [(k, t)] = a' ++ e :: (k, t) :: [] := by simp
        rw [hj, el, joined_right]
        dsimp only
        rw [List.concat_eq_append] at hc
        obtain ⟨lo'', hc2, hg, rfl, rfl, hkd, hlo, hhi⟩ := ctx_left hc
        obtain ⟨j1, j2, j3⟩ := join_ok hg.1 hs hkd hlo hhi
        have hg2 := hg.2
        have hnn := sumT_nonneg t
        obtain ⟨m, e1, e2, e3, e4, e5, _⟩ := split_ok hc2 j1 (by omega) (by omega) (by rw [el] at h0; cases a' <;> simpa [keyAt] using h0)
        have hd4 : sumT (.node 0 (a' ++ (e.1, joinT lo' e.2 t) :: [])) ≤ sumT (.node 0 (a' ++ e :: (lo', t) :: [])) := by
          rw [sum_node_append 0 0 0, sum_node_cons 0 0, sum_node_append 0 0 0 a', sum_node_cons 0 0 e, sum_node_cons 0 0 (lo', t)]
          simp only
          omega
        rcases e1 with e1 | ⟨e1, rfl⟩
        · rw [e1]; exact ⟨0, m, rfl, e2, e3, by omega, by simp at e5 ⊢; omega⟩
        · rw [e1]; exact ⟨0, _, rfl, e2, e3, by omega, by simp <;> omega⟩

/-! a key's value in a leaf -/
theorem putL_mem {key : List UInt8} {v : Tv} : ∀ {l : List (List UInt8 × Tv)} {c : List UInt8 × Tv}, c ∈ putL key v l → c = (key, v) ∨ c ∈ l
  | [], c, h => by simp [putL] at h; exact .inl h
  | d :: r, c, h => by
    unfold putL at h
    split at h
    · rcases List.mem_cons.1 h with rfl | h
      · exact .inr (by simp)
      · exact (putL_mem h).imp id (fun h => by simp [h])
    · split at h
      · rcases List.mem_cons.1 h with rfl | h
        · exact .inl rfl
        · exact .inr (by simp [h])
      · rcases List.mem_cons.1 h with rfl | h
        · exact .inl rfl
        · exact .inr h
theorem putL_sorted {key : List UInt8} {v : Tv} : ∀ {l : List (List UInt8 × Tv)}, (keysOf l).Pairwise (fun a b => a < b) → (keysOf (putL key v l)).Pairwise (fun a b => a < b)
  | [], _ => by simp [putL, keysOf]
  | d :: r, h => by
    unfold keysOf at h
    rw [List.map_cons, List.pairwise_cons] at h
    obtain ⟨h1, h2⟩ := h
    unfold putL
    split
    · rename_i hlt
      unfold keysOf
      rw [List.map_cons, List.pairwise_cons]
      refine ⟨fun x hx => ?_, putL_sorted h2⟩
      obtain ⟨c, hc, rfl⟩ := List.mem_map.1 hx
      rcases putL_mem hc with rfl | hc
      · exact hlt
      · exact h1 c.1 (List.mem_map_of_mem hc)
    · rename_i hlt
      split
      · rename_i he
        unfold keysOf
        rw [List.map_cons, List.pairwise_cons]
        exact ⟨fun x hx => he ▸ h1 x hx, h2⟩
      · rename_i he
        have hk : key < d.1 := by
          rcases ktri d.1 key with h | h | h
          · exact absurd h hlt
          · exact absurd h he
          · exact h
        unfold keysOf
        rw [List.map_cons, List.map_cons, List.pairwise_cons, List.pairwise_cons]
        refine ⟨fun x hx => ?_, h1, h2⟩
        rcases List.mem_cons.1 hx with rfl | hx
        · exact hk
        · exact klt_trans hk (h1 x hx)
theorem putL_sum {key : List UInt8} {v : Tv} (hk : key.length ≤ 16) : ∀ (l : List (List UInt8 × Tv)), sumT (.leaf 0 (putL key v l)) ≤ sumT (.leaf 0 l) + 35 ∧ 0 < (putL key v l).length
  | [] => by
    have := vSz_le v
    unfold putL
    rw [sum_leaf_cons 0 0]
    simp [sum_leaf, sumI_nil]; omega
  | d :: r => by
    have := vSz_le v
    have ih := putL_sum hk r (v := v)
    unfold putL
    split
    · rw [sum_leaf_cons 0 0, sum_leaf_cons 0 0 d]; simp; omega
    · split
      · rw [sum_leaf_cons 0 0, sum_leaf_cons 0 0 d]; simp; omega
      · rw [sum_leaf_cons 0 0]; simp; omega
theorem putL_ok {lo hi key : List UInt8} {v : Tv} {l : List (List UInt8 × Tv)} (h : LeafOk lo hi l) (hk : keyOk key) (hlo : ¬ key < lo) (hhi : ltH hi key) (hv : valOk v) : LeafOk lo hi (putL key v l) :=
  ⟨putL_sorted h.1, fun c hc => by
    rcases putL_mem hc with rfl | hc
    · exact ⟨hk, hlo, hhi, hv⟩
    · exact h.2 c hc⟩

/-! which kid has a key -/
theorem wayD_spec (ks : List (List UInt8)) (key : List UInt8) : ∀ n, wayD ks key n ≤ n ∧ (wayD ks key n = 0 ∨ ¬ key < ks[wayD ks key n]?.getD []) ∧ ∀ i, wayD ks key n < i → i ≤ n → key < ks[i]?.getD []
  | 0 => ⟨Nat.le_refl _, .inl rfl, fun i h1 h2 => by simp [wayD] at h1; omega⟩
  | n + 1 => by
    obtain ⟨h1, h2, h3⟩ := wayD_spec ks key n
    unfold wayD
    split
    · rename_i h
      refine ⟨by omega, h2, fun i a b => ?_⟩
      by_cases e : i = n + 1
      · subst e; exact h
      · exact h3 i a (by omega)
    · rename_i h
      exact ⟨Nat.le_refl _, .inr h, fun i a b => by omega⟩
theorem wayF_spec {ks : List (List UInt8)} {key : List UInt8} (h : ks ≠ []) : wayF ks key < ks.length ∧ (wayF ks key = 0 ∨ ¬ key < ks[wayF ks key]?.getD []) ∧ ∀ i, wayF ks key < i → i < ks.length → key < ks[i]?.getD [] := by
  obtain ⟨h1, h2, h3⟩ := wayD_spec ks key (ks.length - 1)
  have := List.length_pos_iff.2 h
  exact ⟨by unfold wayF; omega, h2, fun i a b => h3 i a (by omega)⟩
/-- The kid that has a key, its surroundings, and that the key lies in its span. -/
theorem way_focus {P : List UInt8 → List UInt8 → Tr → Prop} {lo hi key : List UInt8} {l : List (List UInt8 × Tr)} (h : KidsP P lo hi l) (hlo : ¬ key < lo) (hhi : ltH hi key) :
    ∃ a c b lo' hi', l = a ++ c :: b ∧ a.length = wayF (keysOf l) key ∧ Ctx P lo hi a b c.1 lo' hi' ∧ P lo' hi' c.2 ∧ ¬ key < lo' ∧ ltH hi' key := by
  have hne := kids_ne h
  have hk : keysOf l ≠ [] := by intro e; apply hne; unfold keysOf at e; simpa using e
  obtain ⟨h1, h2, h3⟩ := wayF_spec (key := key) hk
  have hlen : (keysOf l).length = l.length := by simp [keysOf]
  obtain ⟨a, c, b, e, hal⟩ := list_at (l := l) (k := wayF (keysOf l) key) (by omega)
  rw [← hal] at h2 h3
  rw [e] at h h2 h3 hlen
  obtain ⟨lo', hi', hc, hp⟩ := kids_focus h
  refine ⟨a, c, b, lo', hi', e, hal, hc, hp, ?_, ?_⟩
  · obtain ⟨q1, _, _⟩ := hc
    rcases q1 with ⟨rfl, rfl⟩ | ⟨ha, _, _, _, rfl⟩
    · exact hlo
    · rcases h2 with h2 | h2
      · exact absurd (List.length_eq_zero_iff.1 h2) ha
      · simpa [keysOf] using h2
  · obtain ⟨_, q2, _⟩ := hc
    rcases q2 with ⟨rfl, rfl⟩ | ⟨d, r, rfl, rfl, e1, e2, e3⟩
    · exact hhi
    · right
      have := h3 (a.length + 1) (by omega) (by rw [hlen]; simp)
      simpa [keysOf, List.getElem?_append_right] using this

/-- Put into a tree: what comes of it may be, but for what its own cells come to. -/
theorem put_ok : ∀ {n : Nat} {lo hi key : List UInt8} {v : Tv} {t : Tr}, Shape n lo hi t → sumT t ≤ 122 → (∀ p l, t = .node p l → 2 ≤ l.length) → keyOk key → ¬ key < lo → ltH hi key → valOk v →
    Shape n lo hi (putT n t key v) ∧ sumT (putT n t key v) ≤ 160 ∧ (∀ p l, putT n t key v = .leaf p l → 0 < l.length)
  | 0, _, _, _, _, _, h, _, _, _, _, _, _ => h.elim
  | n + 1, lo, hi, key, v, .leaf p l, h, hs, _, hk, hlo, hhi, hv => by
    obtain ⟨rfl, hl⟩ := h
    have h1 := putL_sum hk.2 l (v := v)
    have h2 : sumT (.leaf 0 l) = sumT (.leaf p l) := rfl
    exact ⟨⟨rfl, putL_ok hl hk hlo hhi hv⟩, by unfold putT; omega, fun q m e => by cases e; exact h1.2⟩
  | n + 1, lo, hi, key, v, .node p l, h, hs, h2, hk, hlo, hhi, hv => by
    obtain ⟨h1, h0⟩ := shape_kids h
    have hl2 := h2 p l rfl
    obtain ⟨a, c, b, lo', hi', e, hal, hc, hp, g1, g2⟩ := way_focus h1 hlo hhi
    obtain ⟨i1, i2, i3⟩ := put_ok hp.1 hp.2.2 (fun q m e => good_len (p := q) (by rw [← e]; exact hp)) hk g1 g2 hv
    have hset : l.set (wayF (keysOf l) key) (keyAt l (wayF (keysOf l) key), putT n (kidAt l (wayF (keysOf l) key)) key v) = a ++ (c.1, putT n c.2 key v) :: b := by
      rw [← hal]
      conv => lhs; rw [e]
      rw [keyAt_at, kidAt_at, List.set_append_right _ _ (Nat.le_refl _), Nat.sub_self, List.set_cons_zero]
    have hput : putT (n + 1) (.node p l) key v = mendT 0 (a ++ (c.1, putT n c.2 key v) :: b) a.length := by
      show mendT 0 _ _ = _
      rw [hset, hal]
    have hab : a ≠ [] ∨ b ≠ [] := by
      rw [e] at hl2
      cases a with
      | nil => cases b with
        | nil => simp at hl2
        | cons => exact .inr (by simp)
      | cons => exact .inl (by simp)
    have hk0 : keyAt (a ++ (c.1, putT n c.2 key v) :: b) 0 = [] := by
      rw [e] at h0
      cases a <;> simpa [keyAt] using h0
    obtain ⟨q, m, e1, e2, e3, e4, e5⟩ := mend_ok (p := 0) hc i1 i2 hk0 (.inr hab)
    rw [hput, e1]
    have hsm : sumT (.node 0 (a ++ (c.1, putT n c.2 key v) :: b)) = sumT (.node p l) := by
      rw [e, sum_node_append 0 0 0, sum_node_cons 0 0, sum_node_append p 0 0, sum_node_cons 0 0 c]
    have hq : sumT (.node q m) = sumT (.node 0 m) := rfl
    exact ⟨shape_node e2 e3, by omega, fun p' l' e => by cases e⟩
end Go.Proofs.YtpghlmcoajaiiaaGreatDoor

/- Trees that may be: the top; entries. -/
namespace Go.Proofs.YtpghlmcoajaiiaaGreatDoor

/-- A whole tree that may be, the empty one too. -/
def Root (n : Nat) (t : Tr) : Prop := Shape n [] [] t ∧ sumT t ≤ 122 ∧ (∀ p l, t = .node p l → 2 ≤ l.length)
theorem root_empty : Root 1 (.leaf 0 []) := ⟨⟨rfl, by simp [keysOf], fun c hc => by cases hc⟩, by decide, fun p l e => by cases e⟩
theorem ltH_nil (k : List UInt8) : ltH [] k := .inl rfl
theorem part_two {t : Tr} (hat : atF (sizesT t) ≠ 0) : mendT 0 [([], t)] 0 = .node 0 [([], (partT (atF (sizesT t)).toNat t).1), ((partT (atF (sizesT t)).toNat t).2.2, (partT (atF (sizesT t)).toNat t).2.1)] := by
  have := splitT_at [] [] [] t
  rw [if_neg hat] at this
  unfold mendT
  simp only [List.nil_append, List.length_nil] at this
  rw [this]
theorem root_two {n : Nat} {t : Tr} (hs : Shape n [] [] t) (hsum : sumT t ≤ 200) (hat : atF (sizesT t) ≠ 0) : Root (n + 1) (mendT 0 [([], t)] 0) := by
  obtain ⟨p1, p2, p3, p4, p5⟩ := part_ok hs hsum hat
  rw [part_two hat]
  refine ⟨shape_node ⟨p1, p2, p3, p4, p5⟩ rfl, ?_, fun p l e => by cases e; simp⟩
  have := p2.2
  rw [sum_node_cons 0 0, sum_node_cons 0 0, sum_node_nil]
  simp; omega
/-- The top of a tree that may be but for its top. -/
theorem top_ok : ∀ {n N : Nat} {t : Tr}, Shape n [] [] t → sumT t ≤ 200 → n ≤ N → ∃ m, m ≤ n + 1 ∧ Root m (topT N t)
  | 0, _, _, h, _, _ => h.elim
  | n + 1, 0, _, _, _, h => by omega
  | n + 1, N + 1, .leaf p l, h, hs, hN => by
    unfold topT
    by_cases hat : atF (sizesT (.leaf p l)) = 0
    · rw [if_pos hat]
      rcases shape_parts h hs with ⟨_, h1⟩ | ⟨m, h1, _, h3, _⟩
      · exact ⟨n + 1, by omega, h, h1, fun q m e => by cases e⟩
      · omega
    · rw [if_neg hat]
      exact ⟨n + 2, by omega, root_two h hs hat⟩
  | n + 1, N + 1, .node p l, h, hs, hN => by
    unfold topT
    by_cases h1 : l.length = 1
    · rw [if_pos h1]
      obtain ⟨hk, h0⟩ := shape_kids h
      obtain ⟨c, rfl⟩ := List.length_eq_one_iff.1 h1
      have hg : Good n [] [] c.2 := hk
      obtain ⟨m, e1, e2⟩ := top_ok (N := N) hg.1 (by have := hg.2.2; omega) (by omega)
      exact ⟨m, by omega, by simpa [kidAt] using e2⟩
    · rw [if_neg h1]
      by_cases hat : atF (sizesT (.node p l)) = 0
      · rw [if_pos hat]
        rcases shape_parts h hs with ⟨_, h2⟩ | ⟨m, h2, _, h3, _⟩
        · refine ⟨n + 1, by omega, h, h2, fun q m e => ?_⟩
          cases e
          have := kids_ne (shape_kids h).1
          have := List.length_pos_iff.2 this
          omega
        · omega
      · rw [if_neg hat]
        exact ⟨n + 2, by omega, root_two h hs hat⟩

/-! entries -/
def entsK (n : Nat) (l : List (List UInt8 × Tr)) : List (List UInt8 × Tv) := l.flatMap fun c => entsT n c.2
theorem ents_node (n : Nat) (p : Int) (l : List (List UInt8 × Tr)) : entsT (n + 1) (.node p l) = entsK n l := rfl
theorem ents_leaf (n : Nat) (p : Int) (l : List (List UInt8 × Tv)) : entsT (n + 1) (.leaf p l) = l := rfl
theorem entsK_append (n : Nat) (a b : List (List UInt8 × Tr)) : entsK n (a ++ b) = entsK n a ++ entsK n b := by simp [entsK]
theorem entsK_cons (n : Nat) (c : List UInt8 × Tr) (b : List (List UInt8 × Tr)) : entsK n (c :: b) = entsT n c.2 ++ entsK n b := by simp [entsK]
theorem entsK_first (n : Nat) (k : List UInt8) (l : List (List UInt8 × Tr)) : entsK n (firstK k l) = entsK n l := by cases l <;> simp [firstK, entsK]
theorem ents_part (n m : Nat) (t : Tr) : entsT (n + 1) (partT m t).1 ++ entsT (n + 1) (partT m t).2.1 = entsT (n + 1) t := by
  cases t with
  | leaf p l => simp only [partT, ents_leaf, List.take_append_drop]
  | node p l => simp only [partT, ents_node, entsK_first, ← entsK_append, List.take_append_drop]
theorem ents_join {n : Nat} {k : List UInt8} {s t : Tr} (h : s.isLeaf = t.isLeaf) : entsT (n + 1) (joinT k s t) = entsT (n + 1) s ++ entsT (n + 1) t := by
  cases s <;> cases t <;> simp only [Tr.isLeaf] at h
  · simp only [joinT, ents_leaf]
  · cases h
  · cases h
  · simp only [joinT, ents_node, entsK_first, entsK_append]
theorem shape_kind {n : Nat} {lo hi : List UInt8} {t : Tr} (h : Shape n lo hi t) : t.isLeaf = decide (n = 1) := by
  cases n with
  | zero => exact h.elim
  | succ n =>
    cases t with
    | leaf p l => obtain ⟨rfl, _⟩ := h; rfl
    | node p l =>
      cases n with
      | zero => exact (kids_good0 (shape_kids h).1).elim
      | succ n => simp [Tr.isLeaf]
theorem ents_split {n : Nat} {a b : List (List UInt8 × Tr)} {k : List UInt8} {t : Tr} {m : List (List UInt8 × Tr)} (h : splitT (a ++ (k, t) :: b) a.length = some m) : entsK (n + 1) m = entsK (n + 1) (a ++ (k, t) :: b) := by
  rw [splitT_at] at h
  split at h
  · cases h
  · cases h
    have := ents_part n (atF (sizesT t)).toNat t
    rw [entsK_append, entsK_cons, entsK_cons, entsK_append, entsK_cons, ← List.append_assoc (entsT (n + 1) _), this]
/-- Mending leaves the entries. -/
theorem ents_mend {n : Nat} {p : Int} {a b : List (List UInt8 × Tr)} {k : List UInt8} {t : Tr} (h : ∀ c ∈ a ++ (k, t) :: b, c.2.isLeaf = t.isLeaf) : entsT (n + 2) (mendT p (a ++ (k, t) :: b) a.length) = entsK (n + 1) (a ++ (k, t) :: b) := by
  unfold mendT
  cases hs : splitT (a ++ (k, t) :: b) a.length with
  | some m => exact ents_split hs
  | none =>
    simp only
    split
    · rfl
    · rename_i hc
      simp only [not_or] at hc
      have two : ∀ (a b : List (List UInt8 × Tr)) (c d : List UInt8 × Tr), c.2.isLeaf = d.2.isLeaf →
          entsT (n + 2) (match splitT (joined (a ++ c :: d :: b) a.length) a.length with | some m => .node 0 m | none => .node 0 (joined (a ++ c :: d :: b) a.length)) = entsK (n + 1) (a ++ c :: d :: b) := by
        intro a b c d hcd
        rw [joined_right]
        have hj : entsK (n + 1) (a ++ (c.1, joinT d.1 c.2 d.2) :: b) = entsK (n + 1) (a ++ c :: d :: b) := by
          rw [entsK_append, entsK_cons, entsK_append, entsK_cons, entsK_cons, ents_join hcd, List.append_assoc]
        cases hs2 : splitT (a ++ (c.1, joinT d.1 c.2 d.2) :: b) a.length with
        | some m => simp only; rw [ents_node, ents_split hs2, hj]
        | none => simp only; rw [ents_node, hj]
      cases b with
      | cons d r =>
        have hj : joinAt (a ++ (k, t) :: d :: r).length a.length = a.length := by unfold joinAt; simp
        rw [hj]
        exact two a r (k, t) d (h d (by simp)).symm
      | nil =>
        rcases List.eq_nil_or_concat a with rfl | ⟨a', e, rfl⟩
        · simp at hc
        · have hj : joinAt (a'.concat e ++ [(k, t)]).length (a'.concat e).length = a'.length := by unfold joinAt; simp
          have el : a'.concat e ++ [(k, t)] = a' ++ e :: (k, t) :: [] := by simp
          rw [hj, el]
          exact two a' [] e (k, t) (h e (by simp))
/-- The kids of a branch that may be are of a kind. -/
theorem kids_kind {n : Nat} : ∀ {l : List (List UInt8 × Tr)} {lo hi : List UInt8}, KidsP (Good n) lo hi l → ∀ c ∈ l, c.2.isLeaf = decide (n = 1)
  | [d], _, _, h, c, hc => by simp at hc; subst hc; exact shape_kind h.1
  | d :: e :: r, _, _, h, c, hc => by
    rcases List.mem_cons.1 hc with rfl | hc
    · exact shape_kind h.1.1
    · exact kids_kind h.2.2.2.2 c hc

/-! where entries lie -/
theorem putL_ahead {key : List UInt8} {v : Tv} {B : List (List UInt8 × Tv)} : ∀ {A : List (List UInt8 × Tv)}, (∀ c ∈ A, c.1 < key) → putL key v (A ++ B) = A ++ putL key v B
  | [], _ => rfl
  | c :: A, h => by
    show (if c.1 < key then c :: putL key v (A ++ B) else _) = _
    rw [if_pos (h c (by simp)), putL_ahead (fun d hd => h d (by simp [hd]))]; rfl
theorem putL_behind {key : List UInt8} {v : Tv} {C : List (List UInt8 × Tv)} (hC : ∀ c ∈ C, key < c.1) : ∀ {B : List (List UInt8 × Tv)}, putL key v (B ++ C) = putL key v B ++ C
  | [] => by
    cases C with
    | nil => rfl
    | cons d C =>
      have := hC d (by simp)
      show (if d.1 < key then _ else if d.1 = key then _ else _) = _
      rw [if_neg (klt_asymm this), if_neg (fun e => klt_irrefl key (by rw [e] at this; exact this))]; rfl
  | c :: B => by
    show (if c.1 < key then c :: putL key v (B ++ C) else if c.1 = key then (key, v) :: (B ++ C) else (key, v) :: c :: (B ++ C)) = (if c.1 < key then c :: putL key v B else if c.1 = key then (key, v) :: B else (key, v) :: c :: B) ++ C
    split
    · rw [putL_behind hC]; rfl
    · split <;> rfl
theorem ents_glue {lo k hi : List UInt8} {l m : List (List UInt8 × Tv)} (h : LeafOk lo k l) (g : LeafOk k hi m) (hk : keyOk k) (hlo : lo < k) (hhi : ltH hi k) : LeafOk lo hi (l ++ m) := by
  obtain ⟨hp, hl⟩ := h
  obtain ⟨hq, hm⟩ := g
  refine ⟨?_, fun c hc => ?_⟩
  · unfold keysOf at *
    rw [List.map_append, List.pairwise_append]
    refine ⟨hp, hq, fun x hx y hy => ?_⟩
    obtain ⟨c, hc, rfl⟩ := List.mem_map.1 hx
    obtain ⟨d, hd, rfl⟩ := List.mem_map.1 hy
    exact klt_le ((hl c hc).2.2.1.resolve_left hk.1) (hm d hd).2.1
  · rcases List.mem_append.1 hc with hc | hc
    · have := hl c hc
      exact ⟨this.1, this.2.1, hhi.of (this.2.2.1.resolve_left hk.1), this.2.2.2⟩
    · have := hm c hc
      exact ⟨this.1, fun h => this.2.1 (klt_trans h hlo), this.2.2.1, this.2.2.2⟩
theorem kids_ents {n : Nat} (ih : ∀ {lo hi : List UInt8} {t : Tr}, Shape n lo hi t → LeafOk lo hi (entsT n t)) : ∀ {l : List (List UInt8 × Tr)} {lo hi : List UInt8}, KidsP (Good n) lo hi l → LeafOk lo hi (entsK n l)
  | [c], lo, hi, h => by rw [entsK_cons]; simpa [entsK] using ih h.1
  | c :: d :: r, lo, hi, h => by
    rw [entsK_cons]
    exact ents_glue (ih h.1.1) (kids_ents ih h.2.2.2.2) h.2.1 h.2.2.1 h.2.2.2.1
theorem shape_ents : ∀ {n : Nat} {lo hi : List UInt8} {t : Tr}, Shape n lo hi t → LeafOk lo hi (entsT n t)
  | 0, _, _, _, h => h.elim
  | _ + 1, _, _, .leaf _p _l, h => h.2
  | _n + 1, _lo, _hi, .node _p _l, h => kids_ents (fun h => shape_ents h) (shape_kids h).1
/-- The entries behind a put. -/
theorem ents_put : ∀ {n : Nat} {lo hi key : List UInt8} {v : Tv} {t : Tr}, Shape n lo hi t → keyOk key → ¬ key < lo → ltH hi key → valOk v → sumT t ≤ 122 → (∀ p l, t = .node p l → 2 ≤ l.length) → entsT n (putT n t key v) = putL key v (entsT n t)
  | 0, _, _, _, _, _, h, _, _, _, _, _, _ => h.elim
  | n + 1, lo, hi, key, v, .leaf p l, h, _, _, _, _, _, _ => rfl
  | n + 1, lo, hi, key, v, .node p l, h, hk, hlo, hhi, hv, hsm, h2 => by
    obtain ⟨h1, h0⟩ := shape_kids h
    obtain ⟨a, c, b, lo', hi', e, hal, hc, hp, g1, g2⟩ := way_focus h1 hlo hhi
    have hl2 := h2 p l rfl
    have ih := ents_put hp.1 hk g1 g2 hv hp.2.2 (fun q m e => good_len (p := q) (by rw [← e]; exact hp))
    obtain ⟨i1, i2, i3⟩ := put_ok hp.1 hp.2.2 (fun q m e => good_len (p := q) (by rw [← e]; exact hp)) hk g1 g2 hv
    have hset : l.set (wayF (keysOf l) key) (keyAt l (wayF (keysOf l) key), putT n (kidAt l (wayF (keysOf l) key)) key v) = a ++ (c.1, putT n c.2 key v) :: b := by
      rw [← hal]
      conv => lhs; rw [e]
      rw [keyAt_at, kidAt_at, List.set_append_right _ _ (Nat.le_refl _), Nat.sub_self, List.set_cons_zero]
    have hput : putT (n + 1) (.node p l) key v = mendT 0 (a ++ (c.1, putT n c.2 key v) :: b) a.length := by
      show mendT 0 _ _ = _
      rw [hset, hal]
    rw [hput]
    have hkind := kids_kind h1
    cases n with
    | zero => exact hp.1.elim
    | succ n =>
      rw [ents_mend (by
        intro d hd
        have ht : (putT (n + 1) c.2 key v).isLeaf = decide (n + 1 = 1) := shape_kind i1
        rw [ht]
        rcases List.mem_append.1 hd with hd | hd
        · exact hkind d (by rw [e]; simp [hd])
        · rcases List.mem_cons.1 hd with rfl | hd
          · exact ht
          · exact hkind d (by rw [e]; simp [hd]))]
      rw [ents_node, e, entsK_append, entsK_cons, entsK_append, entsK_cons, ih]
      obtain ⟨q1, q2, q3⟩ := hc
      have hA : ∀ d ∈ entsK (n + 1) a, d.1 < key := by
        rcases q1 with ⟨rfl, _⟩ | ⟨ha, e1, e2, e3, rfl⟩
        · intro d hd; simp [entsK] at hd
        · intro d hd
          have := (kids_ents (fun h => shape_ents h) e1).2 d hd
          exact klt_le (this.2.2.1.resolve_left e2.1) g1
      have hB : ∀ d ∈ entsK (n + 1) b, key < d.1 := by
        rcases q2 with ⟨rfl, _⟩ | ⟨d, r, rfl, rfl, e1, e2, e3⟩
        · intro d hd; simp [entsK] at hd
        · intro d' hd
          have := (kids_ents (fun h => shape_ents h) e3).2 d' hd
          exact klt_le (g2.resolve_left e1.1) this.2.1
      rw [putL_ahead hA, putL_behind hB]
end Go.Proofs.YtpghlmcoajaiiaaGreatDoor

/- Trees that may be: what is found; what a check tells. -/
namespace Go.Proofs.YtpghlmcoajaiiaaGreatDoor

/-! found -/
/-- How many keys are below one. -/
def posK (key : List UInt8) : List (List UInt8) → Nat
  | [] => 0
  | k :: r => if k < key then posK key r + 1 else 0
theorem posK_le (key : List UInt8) : ∀ l, posK key l ≤ l.length
  | [] => Nat.le_refl _
  | k :: r => by unfold posK; split <;> simp; exact posK_le key r
theorem posK_lt {key : List UInt8} : ∀ {l : List (List UInt8)} {i : Nat}, i < posK key l → l[i]?.getD [] < key
  | [], i, h => by simp [posK] at h
  | k :: r, i, h => by
    unfold posK at h
    split at h
    · rename_i hk
      cases i with
      | zero => simpa using hk
      | succ i => simpa using posK_lt (l := r) (i := i) (by omega)
    · omega
theorem posK_at {key : List UInt8} : ∀ {l : List (List UInt8)}, posK key l < l.length → ¬ l[posK key l]?.getD [] < key
  | [], h => by simp at h
  | k :: r, h => by
    unfold posK at h ⊢
    split
    · rename_i hk
      rw [if_pos hk] at h
      simpa using posK_at (l := r) (by simpa using h)
    · rename_i hk
      simpa using hk
theorem posK_eq {key : List UInt8} {l : List (List UInt8)} {i : Nat} (hi : i ≤ l.length) (h1 : ∀ j, j < i → l[j]?.getD [] < key) (h2 : i < l.length → ¬ l[i]?.getD [] < key) : posK key l = i := by
  rcases Nat.lt_trichotomy (posK key l) i with h | h | h
  · exact absurd (h1 _ h) (posK_at (by omega))
  · exact h
  · have := posK_le key l
    exact absurd (posK_lt h) (h2 (by omega))
def hasK (key : List UInt8) (l : List (List UInt8)) : Bool := l[posK key l]? == some key
theorem putL_pos (key : List UInt8) (v : Tv) : ∀ l : List (List UInt8 × Tv), putL key v l = l.take (posK key (keysOf l)) ++ (key, v) :: l.drop (posK key (keysOf l) + (if hasK key (keysOf l) then 1 else 0))
  | [] => by simp [putL, posK, keysOf]
  | c :: r => by
    have ih := putL_pos key v r
    unfold putL
    by_cases h : c.1 < key
    · have e1 : posK key (keysOf (c :: r)) = posK key (keysOf r) + 1 := by
        show (if c.1 < key then _ else _) = _
        rw [if_pos h]; rfl
      have e2 : hasK key (keysOf (c :: r)) = hasK key (keysOf r) := by
        unfold hasK
        rw [e1]; simp [keysOf]
      rw [if_pos h, e1, e2, ih, List.take_succ_cons, show posK key (keysOf r) + 1 + (if hasK key (keysOf r) = true then 1 else 0) = (posK key (keysOf r) + (if hasK key (keysOf r) = true then 1 else 0)) + 1 by omega, List.drop_succ_cons]
      rfl
    · have e1 : posK key (keysOf (c :: r)) = 0 := by
        show (if c.1 < key then _ else _) = _
        rw [if_neg h]
      rw [if_neg h, e1]
      by_cases he : c.1 = key
      · have e2 : hasK key (keysOf (c :: r)) = true := by
          unfold hasK
          rw [e1]; simp [keysOf, he]
        rw [if_pos he, e2]; simp
      · have e2 : hasK key (keysOf (c :: r)) = false := by
          unfold hasK
          rw [e1]; simp [keysOf, he]
        rw [if_neg he, e2]; simp

/-! whether a tree may be -/
def cntT : Tr → Nat
  | .leaf _ l => l.length
  | .node _ l => l.length
def emptyB : Tr → Bool
  | .leaf p l => p == 0 && l.isEmpty
  | .node _ _ => false
theorem pair_get {l : List (List UInt8)} (h : l.Pairwise (fun a b => a < b)) {i j : Nat} (hij : i < j) (hj : j < l.length) : l[i]?.getD [] < l[j]?.getD [] := by
  rw [List.getElem?_eq_getElem (by omega), List.getElem?_eq_getElem hj]
  exact List.pairwise_iff_getElem.1 h i j (by omega) hj hij
end Go.Proofs.YtpghlmcoajaiiaaGreatDoor

/- The walks of Need: the program's, and the document's. -/
namespace Go.Proofs.YtpghlmcoajaiiaaGreatDoor
open Go.RowKit

set_option maxRecDepth 100000 in
set_option maxHeartbeats 1000000 in
theorem cneed_any (n : Int) (w : World) :
    Calls Tryz.prog 177 #[.int .i64 n] w fun e w' => e = .returned (.int .i64 (needC n : Int)) ∧ w = w' := by
  by_cases h1 : n ≤ 16
  · have d1 : decide (n ≤ 16) = true := by simpa using h1
    have HN := Lib.hid (show needC n = 0 by rw [needC, if_pos (.inl h1)])
    go_enter Tryz.func177, Tryz.ntmps177
    go_wp2
    go_ret
    exact ⟨ret_int (by rw [HN.out]; rfl), rfl⟩
  · have d1 : decide (n ≤ 16) = false := by simpa using h1
    by_cases h2 : 400 < n
    · have d2 : decide (400 < n) = true := by simpa using h2
      have HN := Lib.hid (show needC n = 0 by rw [needC, if_pos (.inr h2)])
      go_enter Tryz.func177, Tryz.ntmps177
      go_wp2
      go_ret
      exact ⟨ret_int (by rw [HN.out]; rfl), rfl⟩
    · have d2 : decide (400 < n) = false := by simpa using h2
      have HN := Lib.hid (show needC n = ((n + 118) / 119).toNat by rw [needC, if_neg (by omega)])
      go_enter Tryz.func177, Tryz.ntmps177
      go_wp2
      go_ret
      exact ⟨ret_int (by rw [HN.out]; omega), rfl⟩
set_option maxRecDepth 100000 in
set_option maxHeartbeats 1000000 in
theorem crneed_any (n : Int) (w : World) :
    Calls Tryz.prog 89 #[.int .i64 n] w fun e w' => e = .returned (.int .i64 (needC n : Int)) ∧ w = w' := by
  have hle := needC_le n
  by_cases h1 : 16 < n ∧ n ≤ 400
  · have hq : ∀ k : Nat, ((k : Int) * 119 < n ↔ k < needC n) := by
      intro k
      unfold needC
      split <;> omega
    have d1 : decide (16 < n) = true := by simpa using h1.1
    have d2 : decide (n ≤ 400) = true := by simpa using h1.2
    have HQ := Lib.hid hq
    generalize hm : needC n = m at *
    have HM := Lib.hid hm
    clear hq hm
    go_enter Tryz.func89, Tryz.ntmps89
    go_wp2
    go_loop [3] (fun s => ∃ k : Nat, s = .int .i64 k ∧ k ≤ m) (fun s => m - (intOf s).toNat)
    case atStart => exact ⟨0, rfl, Nat.zero_le _⟩
    case round =>
      obtain ⟨k, rfl, hk⟩ := hrel
      have hq := HQ.out k
      by_cases hlt : k < m
      · have d3 : decide ((k : Int) * 119 < n) = true := by simpa using hq.2 hlt
        clear hq
        go_wp2_with fail
        go_round
        case rel => exact ⟨k + 1, by go_num, hlt⟩
        case measure => simp [intOf]; omega
      · have d3 : decide ((k : Int) * 119 < n) = false := by simpa using fun h => hlt (hq.1 h)
        obtain rfl : k = m := by omega
        clear hq
        go_wp2_with fail
        go_ret
        exact ⟨rfl, rfl⟩
  · have HN := Lib.hid (show needC n = 0 by rw [needC, if_pos (by omega)])
    have dd : decide (16 < n) = false ∨ (decide (16 < n) = true ∧ decide (n ≤ 400) = false) := by
      by_cases h : 16 < n
      · right; exact ⟨by simpa using h, by simp; omega⟩
      · left; simpa using h
    go_enter Tryz.func89, Tryz.ntmps89
    go_wp2
    go_loop [3] (fun s => s = .int .i64 0) (fun _ => 1)
    case atStart => rfl
    case round =>
      subst hrel
      rcases dd with d1 | ⟨d1, d2⟩
      · go_wp2_with fail
        go_ret
        exact ⟨ret_int (by rw [HN.out]; rfl), rfl⟩
      · go_wp2_with fail
        go_ret
        exact ⟨ret_int (by rw [HN.out]; rfl), rfl⟩
end Go.Proofs.YtpghlmcoajaiiaaGreatDoor

/- The walks of trees: cells' sizes. -/
namespace Go.Proofs.YtpghlmcoajaiiaaGreatDoor
open Go.RowKit

/-- How great a tree is at most. -/
def Bnd : Nat → Tr → Prop
  | 0, _ => True
  | _ + 1, .leaf _ l => l.length ≤ 1000 ∧ ∀ c ∈ l, c.1.length ≤ 200 ∧ c.2.data.length ≤ 1000
  | n + 1, .node _ l => l.length ≤ 1000 ∧ ∀ c ∈ l, c.1.length ≤ 200 ∧ Bnd n c.2
theorem Bnd.small {n : Nat} {t : Tr} (h : Bnd (n + 1) t) : Small (sizesT t) := by
  cases t with
  | leaf p l =>
    refine ⟨by simp [sizesT]; exact h.1, fun x hx => ?_⟩
    obtain ⟨c, hc, rfl⟩ := List.mem_map.1 hx
    have := (h.2 c hc).1
    have := vSz_le c.2
    omega
  | node p l =>
    refine ⟨by simp [sizesT]; exact h.1, fun x hx => ?_⟩
    obtain ⟨c, hc, rfl⟩ := List.mem_map.1 hx
    have := (h.2 c hc).1
    omega
theorem info_intT : (Tryz.prog.info? 3).map (fun i => (i.zero, i.size, i.bytes)) = some (some (.int .i64 0), 1, 8) := by kernel_rfl
theorem KeysIn.at {w : World} {a : Option Addr} {n c : Nat} {l : List (List UInt8)} (h : KeysIn w a n c l) {k : Nat} (hk : k < n) :
    ∃ b off, a = some ⟨b, off, none⟩ ∧ b < w.heap.size ∧ w.cell? ⟨b, off + k, none⟩ = some (.string (strOf (l[k]?.getD []))) := by
  obtain ⟨b, off, y, cs, e1, e2, e3, _, e5, e6⟩ := TabR.at h hk
  have e5 : cs = _ := e5
  subst e5
  have := e6 0 _ rfl
  refine ⟨b, off, e1, e2, ?_⟩
  rw [e3]; simpa using this
theorem ValsIn.at {w : World} {a : Option Addr} {n c : Nat} {l : List Tv} (h : ValsIn w a n c l) {k : Nat} (hk : k < n) :
    ∃ b off v pa pn pc, a = some ⟨b, off, none⟩ ∧ b < w.heap.size ∧ l[k]? = some v ∧ w.cell? ⟨b, off + k * 2, none⟩ = some (.string (strOf v.data)) ∧ w.cell? ⟨b, off + k * 2 + 1, none⟩ = some (.slice pa pn pc) ∧ Row .i64 w pa pn pc v.pages := by
  obtain ⟨b, off, y, cs, e1, e2, e3, _, ⟨pa, pn, pc, rfl, hr⟩, e6⟩ := TabR.at h hk
  exact ⟨b, off, y, pa, pn, pc, e1, e2, e3, e6 0 _ rfl, e6 1 _ rfl, hr⟩

def SizesPost (w : World) (S : List Int) (e : Ending) (w' : World) : Prop := ∃ v, e = .returned v ∧ w'.ownsRow w.heap.size 3 1 v S.length (S.map (Value.int .i64)) ∧ Below w.heap.size w w'
theorem tk_succ (l : List Int) (i : Nat) (h : i < l.length) : l.take (i + 1) = l.take i ++ [l[i]?.getD 0] := by
  rw [List.take_succ_eq_append_getElem h, List.getElem?_eq_getElem h]; rfl
set_option maxRecDepth 100000 in
set_option maxHeartbeats 4000000 in
theorem tsizes_node {n : Nat} {w : World} {cs : List Value} {p : Int} {l : List (List UInt8 × Tr)} (h : NodeIn (n + 1) w cs (.node p l)) (hb : Bnd (n + 1) (.node p l)) :
    Calls Tryz.prog 144 #[.agg cs.toArray] w (SizesPost w (sizesT (.node p l))) := by
  obtain ⟨ka, kn, kc, va, vc, ca, cn, cc, rfl, h1, h2, h3⟩ := h
  obtain ⟨g1, g2⟩ := hb
  obtain ⟨e1, e2, e3⟩ := h1.lens
  have hkl : (keysOf l).length = l.length := by simp [keysOf]
  have hsl : (sizesT (.node p l)).length = kn := by rw [sizes_len_node, ← hkl, e1]
  have HS : Hid (∀ i, i < kn → (sizesT (.node p l))[i]?.getD 0 = 4 + (((keysOf l)[i]?.getD []).length : Int) ∧ ((keysOf l)[i]?.getD []).length ≤ 200) := Lib.hid (fun i hi => by
    have hi' : i < l.length := by omega
    have := (g2 l[i] (List.getElem_mem hi')).1
    simp [sizesT, keysOf, hi', this])
  have HK := Lib.hid h1
  have HSL := Lib.hid hsl
  have hkn : kn ≤ 1000 := by omega
  obtain ⟨i0, hi0, hz0, hz1, hz2⟩ := info_parts info_intT
  have hA : Below w.heap.size w (w.alloc (.cells #[.int .i64 p, .bool false, .slice ka kn kc, .slice va 0 vc, .slice ca cn cc] 50)) := (Below.refl _ _).alloc (Nat.le_refl _) _
  have HBX := Lib.hid ((Boxes.nil w).alloc #[.int .i64 p, .bool false, .slice ka kn kc, .slice va 0 vc, .slice ca cn cc] 50 rfl)
  generalize sizesT (.node p l) = S at *
  generalize keysOf l = K at *
  clear h1 h2 h3 g1 g2 e1 hkl hsl
  go_enter Tryz.func144, Tryz.ntmps144
  go_wp2_with fail
  go_loopw [3, 11] (fun s3 s11 wr => ∃ i : Nat, i ≤ kn ∧ s11 = .int .i64 i ∧ wr.ownsRow w.heap.size 3 1 s3 i ((S.take i).map (Value.int .i64)) ∧ Below w.heap.size w wr ∧ Boxes wr [(w.heap.size, [.int .i64 p, .bool false, .slice ka kn kc, .slice va 0 vc, .slice ca cn cc])] ∧ s3.ownBlock ≠ some w.heap.size) (fun _ s _ => kn - (intOf s).toNat)
  case atStart => exact ⟨0, Nat.zero_le _, rfl, World.ownsRow_nil _ _ _ _, hA, HBX.out, by simp [Value.ownBlock]⟩
  case round =>
    clear HBX hA
    obtain ⟨i, hi, rfl, hown, hb, hbx, hnb⟩ := hrel
    by_cases hlt : i < kn
    · obtain ⟨b, off, rfl, hbb, hcell⟩ := HK.out.at hlt
      have c1 := (hb.cell (p := ⟨b, off + i, none⟩) hbb).trans hcell
      obtain ⟨q1, q2⟩ := HS.out i hlt
      have hst := Lib.hid (tk_succ S i (by rw [HSL.out]; exact hlt))
      have f1 := hbx.cell 0 1 rfl rfl
      have hsz := strOf_size (K[i]?.getD [])
      generalize K[i]?.getD [] = k at *
      obtain ⟨m, hm⟩ : ∃ m, k.length = m := ⟨_, rfl⟩
      rw [hm] at q1 q2 hsz
      have HM := Lib.hid hm
      clear hcell hm
      obtain ⟨v8, w8, hr8, ho8, hg8, hv8⟩ := run_append_new (P := Tryz.prog) (w := wr) w.heap.size 35 3 i0 _ 1 8 Tryz.underlying35 hi0 hz0 hz1 hz2 rfl (by decide) hown #[.int .i64 (4 + (m : Int))] rfl (by intro u hu; simp at hu; subst hu; rfl) (by unfold maxLen; omega) (by omega) hb.size
      have HB8 := Lib.hid (hb.grown hg8 hb.size (own_ge hown))
      have HX8 := Lib.hid (hbx.grown hg8 (by intro p hp; simp at hp; subst hp; exact hnb))
      have HN8 : Hid (v8.ownBlock ≠ some w.heap.size) := Lib.hid (by
        rcases hv8 with h | h
        · rw [h]; exact hnb
        · rw [h]; intro e; have := hb.size; have := Option.some.inj e; omega)
      have HO8 : Hid (w8.ownsRow w.heap.size 3 1 v8 (i + 1) ((S.take (i + 1)).map (Value.int .i64))) := Lib.hid (by
        rw [hst.out, q1, List.map_append]; exact ho8)
      clear hown hb hbx hnb ho8 hg8 hv8 q1 hst
      go_wp2_with (at_builtin; refine wpList_append_run rfl _ _ _ _ rfl rfl rfl hr8 ?_)
      go_roundw
      case rel => exact ⟨i + 1, hlt, by go_num, HO8.out, HB8.out, HX8.out, HN8.out⟩
      case measure => simp [intOf]; omega
    · obtain rfl : i = kn := by omega
      have HE : Hid (SizesPost w S (.returned u3) wr) := Lib.hid ⟨_, rfl, by rw [HSL.out]; rw [List.take_of_length_le (by rw [HSL.out]; exact Nat.le_refl _)] at hown; exact hown, hb⟩
      clear hown hb hbx hnb
      go_wp2_with fail
      go_ret
      exact HE.out
set_option maxRecDepth 100000 in
set_option maxHeartbeats 4000000 in
theorem tsizes_leaf {n : Nat} {w : World} {cs : List Value} {p : Int} {l : List (List UInt8 × Tv)} (h : NodeIn (n + 1) w cs (.leaf p l)) (hb : Bnd (n + 1) (.leaf p l)) :
    Calls Tryz.prog 144 #[.agg cs.toArray] w (SizesPost w (sizesT (.leaf p l))) := by
  obtain ⟨ka, kn, kc, va, vn, vc, ca, cc, rfl, h1, h2, h3⟩ := h
  obtain ⟨g1, g2⟩ := hb
  obtain ⟨e1, e2, e3⟩ := h1.lens
  obtain ⟨e4, e5, e6⟩ := h2.lens
  have hkl : (keysOf l).length = l.length := by simp [keysOf]
  have hsl : (sizesT (.leaf p l)).length = kn := by rw [sizes_len_leaf, ← hkl, e1]
  obtain rfl : kn = vn := by rw [List.length_map] at e4; omega
  have HS : Hid (∀ i, i < kn → ∃ v : Tv, (l.map (·.2))[i]? = some v ∧ (sizesT (.leaf p l))[i]?.getD 0 = 3 + (vSz v : Int) + (((keysOf l)[i]?.getD []).length : Int) ∧ ((keysOf l)[i]?.getD []).length ≤ 200 ∧ v.data.length ≤ 1000) := Lib.hid (fun i hi => by
    have hi' : i < l.length := by omega
    have h5 := g2 l[i] (List.getElem_mem hi')
    exact ⟨l[i].2, by simp [hi'], by simp [sizesT, keysOf, hi'], by simp [keysOf, hi', h5.1], h5.2⟩)
  have HK := Lib.hid h1
  have HV := Lib.hid h2
  have HSL := Lib.hid hsl
  have hkn : kn ≤ 1000 := by omega
  obtain ⟨i0, hi0, hz0, hz1, hz2⟩ := info_parts info_intT
  have hA : Below w.heap.size w (w.alloc (.cells #[.int .i64 p, .bool true, .slice ka kn kc, .slice va kn vc, .slice ca 0 cc] 50)) := (Below.refl _ _).alloc (Nat.le_refl _) _
  have HBX := Lib.hid ((Boxes.nil w).alloc #[.int .i64 p, .bool true, .slice ka kn kc, .slice va kn vc, .slice ca 0 cc] 50 rfl)
  generalize sizesT (.leaf p l) = S at *
  generalize keysOf l = K at *
  generalize l.map (·.2) = V at *
  clear h1 h2 h3 g1 g2 e1 e4 hkl hsl
  go_enter Tryz.func144, Tryz.ntmps144
  go_wp2_with fail
  go_loopw [3, 11] (fun s3 s11 wr => ∃ i : Nat, i ≤ kn ∧ s11 = .int .i64 i ∧ wr.ownsRow w.heap.size 3 1 s3 i ((S.take i).map (Value.int .i64)) ∧ Below w.heap.size w wr ∧ Boxes wr [(w.heap.size, [.int .i64 p, .bool true, .slice ka kn kc, .slice va kn vc, .slice ca 0 cc])] ∧ s3.ownBlock ≠ some w.heap.size) (fun _ s _ => kn - (intOf s).toNat)
  case atStart => exact ⟨0, Nat.zero_le _, rfl, World.ownsRow_nil _ _ _ _, hA, HBX.out, by simp [Value.ownBlock]⟩
  case round =>
    clear HBX hA
    obtain ⟨i, hi, rfl, hown, hb, hbx, hnb⟩ := hrel
    by_cases hlt : i < kn
    · obtain ⟨b, off, rfl, hbb, hcell⟩ := HK.out.at hlt
      have c1 := (hb.cell (p := ⟨b, off + i, none⟩) hbb).trans hcell
      obtain ⟨tv, q0, q1, q2, q3⟩ := HS.out i hlt
      have hst := Lib.hid (tk_succ S i (by rw [HSL.out]; exact hlt))
      have f1 := hbx.cell 0 1 rfl rfl
      have hsz := strOf_size (K[i]?.getD [])
      obtain ⟨b2, off2, tv2, pa, pn, pc, rfl, hbb2, e9, hc2, _, _⟩ := HV.out.at hlt
      rw [q0] at e9; cases e9
      have c2 := (hb.cell (p := ⟨b2, off2 + i * 2, none⟩) hbb2).trans hc2
      have f3 := hbx.cell 0 3 rfl rfl
      have hsz2 := strOf_size tv.data
      obtain ⟨dl, hdl⟩ : ∃ dl, tv.data.length = dl := ⟨_, rfl⟩
      have N := fun W => cneed_any (dl : Int) W
      have hvs : vSz tv = if dl ≤ 16 then dl else 4 := by unfold vSz; rw [hdl]
      rw [hdl] at hsz2 q3
      have HDL := Lib.hid hdl
      clear hc2 hdl q0
      generalize K[i]?.getD [] = k at *
      obtain ⟨m, hm⟩ : ∃ m, k.length = m := ⟨_, rfl⟩
      rw [hm] at q1 q2 hsz
      have HM := Lib.hid hm
      clear hcell hm
      by_cases hd : dl ≤ 16
      · rw [if_pos hd] at hvs
        rw [hvs] at q1
        rw [show needC (dl : Int) = 0 by unfold needC; rw [if_pos (.inl (by omega))]] at N
        have d4 : decide ((400 : Int) < dl) = false := by simp; omega
        have d4' : decide (400 < dl) = false := by simp; omega
        obtain ⟨v8, w8, hr8, ho8, hg8, hv8⟩ := run_append_new (P := Tryz.prog) (w := wr) w.heap.size 35 3 i0 _ 1 8 Tryz.underlying35 hi0 hz0 hz1 hz2 rfl (by decide) hown #[.int .i64 (3 + (dl : Int) + (m : Int))] rfl (by intro u hu; simp at hu; subst hu; rfl) (by unfold maxLen; omega) (by omega) hb.size
        have HB8 := Lib.hid (hb.grown hg8 hb.size (own_ge hown))
        have HX8 := Lib.hid (hbx.grown hg8 (by intro p hp; simp at hp; subst hp; exact hnb))
        have HN8 : Hid (v8.ownBlock ≠ some w.heap.size) := Lib.hid (by
          rcases hv8 with h | h
          · rw [h]; exact hnb
          · rw [h]; intro e; have := hb.size; have := Option.some.inj e; omega)
        have HO8 : Hid (w8.ownsRow w.heap.size 3 1 v8 (i + 1) ((S.take (i + 1)).map (Value.int .i64))) := Lib.hid (by
          rw [hst.out, q1, List.map_append]; exact ho8)
        clear hown hb hbx hnb ho8 hg8 hv8 q1 hst
        clear hvs
        go_wp2_with fail
        refine (N _).mono ?_
        rintro e w2 ⟨rfl, rfl⟩
        go_wp2_with (at_builtin; refine wpList_append_run rfl _ _ _ _ rfl rfl rfl hr8 ?_)
        go_roundw
        case rel => exact ⟨i + 1, hlt, by go_num, HO8.out, HB8.out, HX8.out, HN8.out⟩
        case measure => simp [intOf]; omega
      · rw [if_neg hd] at hvs
        rw [hvs] at q1
        obtain ⟨v8, w8, hr8, ho8, hg8, hv8⟩ := run_append_new (P := Tryz.prog) (w := wr) w.heap.size 35 3 i0 _ 1 8 Tryz.underlying35 hi0 hz0 hz1 hz2 rfl (by decide) hown #[.int .i64 (7 + (m : Int))] rfl (by intro u hu; simp at hu; subst hu; rfl) (by unfold maxLen; omega) (by omega) hb.size
        have HB8 := Lib.hid (hb.grown hg8 hb.size (own_ge hown))
        have HX8 := Lib.hid (hbx.grown hg8 (by intro p hp; simp at hp; subst hp; exact hnb))
        have HN8 : Hid (v8.ownBlock ≠ some w.heap.size) := Lib.hid (by
          rcases hv8 with h | h
          · rw [h]; exact hnb
          · rw [h]; intro e; have := hb.size; have := Option.some.inj e; omega)
        have HO8 : Hid (w8.ownsRow w.heap.size 3 1 v8 (i + 1) ((S.take (i + 1)).map (Value.int .i64))) := Lib.hid (by
          rw [hst.out, q1, List.map_append, show (3 : Int) + ((4 : Nat) : Int) + (m : Int) = 7 + (m : Int) by omega]; exact ho8)
        clear hown hb hbx hnb ho8 hg8 hv8 q1 hst
        have dd : (decide ((0 : Int) < (needC (dl : Int) : Int)) = true ∧ decide (0 < needC (dl : Int)) = true) ∨ (decide ((0 : Int) < (needC (dl : Int) : Int)) = false ∧ decide (0 < needC (dl : Int)) = false ∧ decide ((400 : Int) < dl) = true ∧ decide (400 < dl) = true) := by
          by_cases h4 : 400 < dl
          · right
            have : needC (dl : Int) = 0 := by unfold needC; rw [if_pos (.inr (by omega))]
            rw [this]; exact ⟨by simp, by simp, by simp; omega, by simp; omega⟩
          · left
            have : 0 < needC (dl : Int) := by unfold needC; rw [if_neg (by omega)]; omega
            exact ⟨by simp; omega, by simp; omega⟩
        generalize needC (dl : Int) = nq at *
        clear hvs
        rcases dd with ⟨d4, d4'⟩ | ⟨d4, d4', d5, d5'⟩
        · go_wp2_with fail
          refine (N _).mono ?_
          rintro e w2 ⟨rfl, rfl⟩
          go_wp2_with (at_builtin; refine wpList_append_run rfl _ _ _ _ rfl rfl rfl hr8 ?_)
          go_roundw
          case rel => exact ⟨i + 1, hlt, by go_num, HO8.out, HB8.out, HX8.out, HN8.out⟩
          case measure => simp [intOf]; omega
        · go_wp2_with fail
          refine (N _).mono ?_
          rintro e w2 ⟨rfl, rfl⟩
          go_wp2_with (at_builtin; refine wpList_append_run rfl _ _ _ _ rfl rfl rfl hr8 ?_)
          go_roundw
          case rel => exact ⟨i + 1, hlt, by go_num, HO8.out, HB8.out, HX8.out, HN8.out⟩
          case measure => simp [intOf]; omega
    · obtain rfl : i = kn := by omega
      have HE : Hid (SizesPost w S (.returned u3) wr) := Lib.hid ⟨_, rfl, by rw [HSL.out]; rw [List.take_of_length_le (by rw [HSL.out]; exact Nat.le_refl _)] at hown; exact hown, hb⟩
      clear hown hb hbx hnb
      go_wp2_with fail
      go_ret
      exact HE.out
theorem tsizes_any {n : Nat} {w : World} {cs : List Value} {t : Tr} (h : NodeIn n w cs t) (hb : Bnd n t) : Calls Tryz.prog 144 #[.agg cs.toArray] w (SizesPost w (sizesT t)) := by
  cases n with
  | zero => exact h.elim
  | succ n =>
    cases t with
    | leaf p l => exact tsizes_leaf h hb
    | node p l => exact tsizes_node h hb
end Go.Proofs.YtpghlmcoajaiiaaGreatDoor

/- A node of the program's, its rows as rows of raw cells. -/
namespace Go.Proofs.YtpghlmcoajaiiaaGreatDoor
open Go.RowKit

def NodeR (n : Nat) (w : World) (K : List (Cl 1)) (V : List (Cl 2)) (C : List (Cl 5)) : Tr → Prop
  | .leaf _ l => Tells IsKey K (keysOf l) ∧ Tells (IsTv w) V (l.map (·.2)) ∧ C = []
  | .node _ l => Tells IsKey K (keysOf l) ∧ V = [] ∧ Tells (NodeIn n w) C (l.map (·.2))
theorem IsKey.one {cs : List Value} {y : List UInt8} (h : IsKey cs y) : ∀ u ∈ cs, u.oneCell' = true := by
  have h : cs = _ := h
  subst h
  intro u hu; simp at hu; subst hu; rfl
theorem IsTv.one {w : World} {cs : List Value} {v : Tv} (h : IsTv w cs v) : ∀ u ∈ cs, u.oneCell' = true := by
  obtain ⟨a, n, c, rfl, _⟩ := h
  intro u hu; simp at hu; rcases hu with rfl | rfl <;> rfl
theorem NodeIn.one {n : Nat} {w : World} {cs : List Value} {t : Tr} (h : NodeIn n w cs t) : ∀ u ∈ cs, u.oneCell' = true := by
  cases n with
  | zero => exact h.elim
  | succ n =>
    cases t with
    | leaf p l =>
      obtain ⟨ka, kn, kc, va, vn, vc, ca, cc, rfl, _⟩ := h
      intro u hu; simp at hu; rcases hu with rfl | rfl | rfl | rfl | rfl <;> rfl
    | node p l =>
      obtain ⟨ka, kn, kc, va, vc, ca, cn, cc, rfl, _⟩ := h
      intro u hu; simp at hu; rcases hu with rfl | rfl | rfl | rfl | rfl <;> rfl
theorem NodeIn.len {n : Nat} {w : World} {cs : List Value} {t : Tr} (h : NodeIn n w cs t) : cs.length = 5 := by
  cases n with
  | zero => exact h.elim
  | succ n =>
    cases t with
    | leaf p l => obtain ⟨ka, kn, kc, va, vn, vc, ca, cc, rfl, _⟩ := h; rfl
    | node p l => obtain ⟨ka, kn, kc, va, vc, ca, cn, cc, rfl, _⟩ := h; rfl
theorem unit_nil {α : Type} {sz : Nat} {R : List Value → α → Prop} {w : World} {a : Option Addr} {c : Nat} (h : TabR sz R w a 0 c []) : Raw sz w a 0 c [] := ⟨rfl, h.2.1, h.2.2.1, h.2.2.2.1, .inl rfl⟩
theorem nil_unit {α : Type} {sz : Nat} {R : List Value → α → Prop} {w : World} {a : Option Addr} {c : Nat} (h : Raw sz w a 0 c []) : TabR sz R w a 0 c [] := ⟨rfl, h.2.1, h.2.2.1, h.2.2.2.1, .inl rfl⟩
/-- A node opened. -/
theorem NodeIn.open {n : Nat} {w : World} {cs : List Value} {t : Tr} (h : NodeIn (n + 1) w cs t) :
    ∃ ka kn kc va vn vc ca cn cc K V C, cs = [.int .i64 t.page, .bool t.isLeaf, .slice ka kn kc, .slice va vn vc, .slice ca cn cc] ∧ Raw 1 w ka kn kc K ∧ Raw 2 w va vn vc V ∧ Raw 5 w ca cn cc C ∧ NodeR n w K V C t := by
  cases t with
  | leaf p l =>
    obtain ⟨ka, kn, kc, va, vn, vc, ca, cc, e, h1, h2, h3⟩ := h
    obtain ⟨K, k1, k2⟩ := TabR.raw h1 (fun _ _ h => h.one)
    obtain ⟨V, v1, v2⟩ := TabR.raw h2 (fun _ _ h => h.one)
    exact ⟨ka, kn, kc, va, vn, vc, ca, 0, cc, K, V, [], e, k1, v1, unit_nil h3, k2, v2, rfl⟩
  | node p l =>
    obtain ⟨ka, kn, kc, va, vc, ca, cn, cc, e, h1, h2, h3⟩ := h
    obtain ⟨K, k1, k2⟩ := TabR.raw h1 (fun _ _ h => h.one)
    obtain ⟨C, c1, c2⟩ := TabR.raw h3 (fun _ _ h => h.one)
    exact ⟨ka, kn, kc, va, 0, vc, ca, cn, cc, K, [], C, e, k1, unit_nil h2, c1, k2, rfl, c2⟩
/-- A node shut. -/
theorem NodeIn.shut {n : Nat} {w : World} {t : Tr} {ka : Option Addr} {kn kc : Nat} {va : Option Addr} {vn vc : Nat} {ca : Option Addr} {cn cc : Nat} {K : List (Cl 1)} {V : List (Cl 2)} {C : List (Cl 5)}
    (h1 : Raw 1 w ka kn kc K) (h2 : Raw 2 w va vn vc V) (h3 : Raw 5 w ca cn cc C) (h : NodeR n w K V C t) :
    NodeIn (n + 1) w [.int .i64 t.page, .bool t.isLeaf, .slice ka kn kc, .slice va vn vc, .slice ca cn cc] t := by
  cases t with
  | leaf p l =>
    obtain ⟨g1, g2, rfl⟩ := h
    have := h3.1
    simp at this
    subst this
    exact ⟨ka, kn, kc, va, vn, vc, ca, cc, rfl, h1.tab g1, h2.tab g2, nil_unit h3⟩
  | node p l =>
    obtain ⟨g1, rfl, g2⟩ := h
    have := h2.1
    simp at this
    subst this
    exact ⟨ka, kn, kc, va, vc, ca, cn, cc, rfl, h1.tab g1, nil_unit h2, h3.tab g2⟩
theorem NodeR.below {n : Nat} {w w' : World} {K : List (Cl 1)} {V : List (Cl 2)} {C : List (Cl 5)} {t : Tr} (h : NodeR n w K V C t) (hb : Below w.heap.size w w') : NodeR n w' K V C t := by
  cases t with
  | leaf p l => exact ⟨h.1, h.2.1.mono (fun _ _ _ h => h.below hb), h.2.2⟩
  | node p l => exact ⟨h.1, h.2.1, h.2.2.mono (fun _ _ _ h => NodeIn.below h hb)⟩
theorem NodeR.keys {n : Nat} {w : World} {K : List (Cl 1)} {V : List (Cl 2)} {C : List (Cl 5)} {t : Tr} (h : NodeR n w K V C t) : Tells IsKey K t.keys := by
  cases t with
  | leaf p l => exact h.1
  | node p l => exact h.1
theorem keys_len (t : Tr) : t.keys.length = cntT t := by cases t <;> simp [Tr.keys, keysOf, cntT]
theorem NodeR.lens {n : Nat} {w : World} {K : List (Cl 1)} {V : List (Cl 2)} {C : List (Cl 5)} {t : Tr} (h : NodeR n w K V C t) : K.length = cntT t ∧ V.length = (if t.isLeaf then cntT t else 0) ∧ C.length = (if t.isLeaf then 0 else cntT t) := by
  refine ⟨by rw [h.keys.1, keys_len], ?_⟩
  cases t with
  | leaf p l => exact ⟨by rw [h.2.1.1]; simp [Tr.isLeaf, cntT], by rw [h.2.2]; simp [Tr.isLeaf]⟩
  | node p l => exact ⟨by rw [h.2.1]; simp [Tr.isLeaf], by rw [h.2.2.1]; simp [Tr.isLeaf, cntT]⟩
/-- A key as a raw cell. -/
def kCell (k : List UInt8) : Cl 1 := ⟨[.string (strOf k)], rfl, by intro u hu; simp at hu; subst hu; rfl⟩
theorem Tells.key {K : List (Cl 1)} {l : List (List UInt8)} (h : Tells IsKey K l) {i : Nat} (hi : i < l.length) : K[i]? = some (kCell (l[i]?.getD [])) := by
  have hk : i < K.length := by rw [h.1]; exact hi
  have hx : K[i]? = some K[i] := List.getElem?_eq_getElem hk
  have := h.2 i _ _ hx (List.getElem?_eq_getElem hi)
  rw [hx, List.getElem?_eq_getElem hi]
  congr 1
  exact Subtype.ext this
theorem Tells.keys {K : List (Cl 1)} {l : List (List UInt8)} (h : Tells IsKey K l) : K = l.map kCell := by
  apply List.ext_getElem?
  intro i
  by_cases hi : i < l.length
  · rw [h.key hi]; simp [hi]
  · rw [List.getElem?_eq_none (by rw [h.1]; omega), List.getElem?_eq_none (by simp; omega)]
theorem tells_keys (l : List (List UInt8)) : Tells IsKey (l.map kCell) l := ⟨by simp, fun i x y hx hy => by
  simp [hy] at hx; subst hx; rfl⟩
theorem Raw.key_at {w : World} {a : Option Addr} {n c : Nat} {l : List (List UInt8)} (h : Raw 1 w a n c (l.map kCell)) {k : Nat} (hk : k < n) :
    ∃ b off, a = some ⟨b, off, none⟩ ∧ b < w.heap.size ∧ w.cell? ⟨b, off + k, none⟩ = some (.string (strOf (l[k]?.getD []))) := by
  obtain ⟨b, off, y, cs, e1, e2, e3, _, e5, e6⟩ := TabR.at h hk
  have hl := h.1
  have hkl : k < l.length := by simpa using (show k < (l.map kCell).length by omega)
  simp [hkl] at e3
  subst e3
  have e5 : cs = _ := e5
  subst e5
  have := e6 0 _ rfl
  refine ⟨b, off, e1, e2, ?_⟩
  simpa [hkl] using this
end Go.Proofs.YtpghlmcoajaiiaaGreatDoor

/- Nodes that stand on some blocks alone. -/
namespace Go.Proofs.YtpghlmcoajaiiaaGreatDoor
open Go.RowKit

/-- A slice's block is one of some. -/
def Fa (F : Nat → Prop) (a : Option Addr) (n : Nat) : Prop := n = 0 ∨ ∀ b off, a = some ⟨b, off, none⟩ → F b
theorem Fa.mono {F G : Nat → Prop} {a : Option Addr} {n : Nat} (h : Fa F a n) (hFG : ∀ b, F b → G b) : Fa G a n := h.imp id fun h b off e => hFG b (h b off e)
theorem Fa.zero (F : Nat → Prop) (a : Option Addr) : Fa F a 0 := .inl rfl
theorem Fa.of_own {F : Nat → Prop} {w : World} {base : Nat} {e : TypeId} {sz : Nat} {a : Option Addr} {n c m : Nat} {xs : List Value} (h : w.ownsRow base e sz (.slice a n c) m xs) (hF : ∀ b, base ≤ b → F b) : Fa F a n := by
  right
  intro b off e
  subst e
  rcases h.2 with ⟨h, _⟩ | ⟨g, cap, cur, h, hb, _⟩
  · cases h
  · cases h; exact hF _ hb
/-- Worlds that have the same of some blocks. -/
def AgreeF (F : Nat → Prop) (w w' : World) : Prop := w.heap.size ≤ w'.heap.size ∧ ∀ b, F b → b < w.heap.size → w'.heap[b]? = w.heap[b]?
theorem AgreeF.of_below {F : Nat → Prop} {w w' : World} (h : Below w.heap.size w w') : AgreeF F w w' := ⟨h.size, fun b _ hb => h.block b hb⟩
theorem AgreeF.trans {F : Nat → Prop} {a b c : World} (h : AgreeF F a b) (g : AgreeF F b c) : AgreeF F a c := ⟨Nat.le_trans h.1 g.1, fun k hk hlt => (g.2 k hk (Nat.lt_of_lt_of_le hlt h.1)).trans (h.2 k hk hlt)⟩
theorem AgreeF.set {F : Nat → Prop} {a w : World} (h : AgreeF F a w) {p : Addr} {u : Value} (hp : ¬ F p.block ∨ a.heap.size ≤ p.block) : AgreeF F a (w.setCell p u) := by
  refine ⟨by simpa using h.1, fun b hF hb => ?_⟩
  rw [Below.heap_setCell w p u b (fun e => by subst e; rcases hp with hp | hp; exact hp hF; omega)]
  exact h.2 b hF hb
theorem AgreeF.cell {F : Nat → Prop} {w w' : World} (h : AgreeF F w w') {b o : Nat} (hF : F b) (hb : b < w.heap.size) : w'.cell? ⟨b, o, none⟩ = w.cell? ⟨b, o, none⟩ := World.cell?_of_block (h.2 b hF hb)
theorem TabR.agree {α : Type} {sz : Nat} {R R' : List Value → α → Prop} {F : Nat → Prop} {w w' : World} {a : Option Addr} {len cap : Nat} {l : List α} (h : TabR sz R w a len cap l) (hF : Fa F a len) (ha : AgreeF F w w') (hR : ∀ cs y, y ∈ l → R cs y → R' cs y) : TabR sz R' w' a len cap l := by
  obtain ⟨h1, h2, h3, hn, h4⟩ := h
  refine ⟨h1, h2, h3, hn, ?_⟩
  rcases h4 with h4 | ⟨b, off, h5, h6, h7⟩
  · exact .inl h4
  · rcases hF with hF | hF
    · exact .inl hF
    · exact .inr ⟨b, off, h5, Nat.lt_of_lt_of_le h6 ha.1, fun i y hy => by
        obtain ⟨cs, c1, c2, c3⟩ := h7 i y hy
        exact ⟨cs, c1, hR _ _ (List.mem_of_getElem? hy) c2, fun j v hv => (ha.cell (hF b off h5) h6).trans (c3 j v hv)⟩⟩
theorem Row.agree {k : IntKind} {F : Nat → Prop} {w w' : World} {a : Option Addr} {len cap : Nat} {l : List Int} (h : Row k w a len cap l) (hF : Fa F a len) (ha : AgreeF F w w') : Row k w' a len cap l := by
  obtain ⟨h1, h2, h3, hn, h4⟩ := h
  refine ⟨h1, h2, h3, hn, ?_⟩
  rcases h4 with h4 | ⟨b, off, h5, h6, h7⟩
  · exact .inl h4
  · rcases hF with hF | hF
    · exact .inl hF
    · exact .inr ⟨b, off, h5, Nat.lt_of_lt_of_le h6 ha.1, fun i hi => (ha.cell (hF b off h5) h6).trans (h7 i hi)⟩
theorem TabR.block {α : Type} {sz : Nat} {R : List Value → α → Prop} {w : World} {a : Option Addr} {len cap : Nat} {l : List α} (h : TabR sz R w a len cap l) : Fa (fun b => b < w.heap.size) a len := by
  rcases h.2.2.2.2 with h4 | ⟨b, off, h5, h6, _⟩
  · exact .inl h4
  · exact .inr fun b' off' e => by rw [h5] at e; cases e; exact h6
theorem Row.block {k : IntKind} {w : World} {a : Option Addr} {len cap : Nat} {l : List Int} (h : Row k w a len cap l) : Fa (fun b => b < w.heap.size) a len := by
  rcases h.2.2.2.2 with h4 | ⟨b, off, h5, h6, _⟩
  · exact .inl h4
  · exact .inr fun b' off' e => by rw [h5] at e; cases e; exact h6
theorem Fa.and {F G : Nat → Prop} {a : Option Addr} {n : Nat} (h : Fa F a n) (g : Fa G a n) : Fa (fun b => F b ∧ G b) a n := by
  rcases h with h | h
  · exact .inl h
  · rcases g with g | g
    · exact .inl g
    · exact .inr fun b off e => ⟨h b off e, g b off e⟩
theorem unit_any {α β : Type} {sz : Nat} {R : List Value → α → Prop} {R' : List Value → β → Prop} {w w' : World} {a : Option Addr} {c : Nat} (h : TabR sz R w a 0 c []) : TabR sz R' w' a 0 c [] := ⟨rfl, h.2.1, h.2.2.1, h.2.2.2.1, .inl rfl⟩
def TvOn (F : Nat → Prop) (w : World) (cs : List Value) (v : Tv) : Prop := ∃ a n c, cs = [.string (strOf v.data), .slice a n c] ∧ Row .i64 w a n c v.pages ∧ Fa F a n
theorem TvOn.toIn {F : Nat → Prop} {w : World} {cs : List Value} {v : Tv} (h : TvOn F w cs v) : IsTv w cs v := by
  obtain ⟨a, n, c, e, h1, _⟩ := h
  exact ⟨a, n, c, e, h1⟩
theorem TvOn.agree {F : Nat → Prop} {w w' : World} {cs : List Value} {v : Tv} (h : TvOn F w cs v) (ha : AgreeF F w w') : TvOn F w' cs v := by
  obtain ⟨a, n, c, e, h1, h2⟩ := h
  exact ⟨a, n, c, e, h1.agree h2 ha, h2⟩
theorem TvOn.mono {F G : Nat → Prop} {w : World} {cs : List Value} {v : Tv} (h : TvOn F w cs v) (hFG : ∀ b, F b → G b) : TvOn G w cs v := by
  obtain ⟨a, n, c, e, h1, h2⟩ := h
  exact ⟨a, n, c, e, h1, h2.mono hFG⟩
/-- A node's cells, all of it on some blocks. -/
def NodeOn (F : Nat → Prop) : Nat → World → List Value → Tr → Prop
  | 0, _, _, _ => False
  | _ + 1, w, cs, .leaf p l => ∃ ka kn kc va vn vc ca cc, cs = [.int .i64 p, .bool true, .slice ka kn kc, .slice va vn vc, .slice ca 0 cc] ∧ KeysIn w ka kn kc (keysOf l) ∧ Fa F ka kn ∧ TabR 2 (TvOn F w) w va vn vc (l.map (·.2)) ∧ Fa F va vn ∧ TabR 5 (fun _ (_ : Unit) => True) w ca 0 cc []
  | n + 1, w, cs, .node p l => ∃ ka kn kc va vc ca cn cc, cs = [.int .i64 p, .bool false, .slice ka kn kc, .slice va 0 vc, .slice ca cn cc] ∧ KeysIn w ka kn kc (keysOf l) ∧ Fa F ka kn ∧ TabR 2 (fun _ (_ : Unit) => True) w va 0 vc [] ∧ TabR 5 (NodeOn F n w) w ca cn cc (l.map (·.2)) ∧ Fa F ca cn
theorem NodeOn.toIn {F : Nat → Prop} : ∀ {n : Nat} {w : World} {cs : List Value} {t : Tr}, NodeOn F n w cs t → NodeIn n w cs t
  | 0, _, _, _, h => h.elim
  | _ + 1, _, _, .leaf p l, h => by
    obtain ⟨ka, kn, kc, va, vn, vc, ca, cc, e, h1, _, h2, _, h3⟩ := h
    exact ⟨ka, kn, kc, va, vn, vc, ca, cc, e, h1, TabR.mono h2 (fun _ _ h => h.toIn), h3⟩
  | n + 1, _, _, .node p l, h => by
    obtain ⟨ka, kn, kc, va, vc, ca, cn, cc, e, h1, _, h2, h3, _⟩ := h
    exact ⟨ka, kn, kc, va, vc, ca, cn, cc, e, h1, h2, TabR.mono h3 (fun _ _ h => NodeOn.toIn h)⟩
theorem NodeIn.on : ∀ {n : Nat} {w : World} {cs : List Value} {t : Tr}, NodeIn n w cs t → NodeOn (fun b => b < w.heap.size) n w cs t
  | 0, _, _, _, h => h.elim
  | _ + 1, _, _, .leaf p l, h => by
    obtain ⟨ka, kn, kc, va, vn, vc, ca, cc, e, h1, h2, h3⟩ := h
    exact ⟨ka, kn, kc, va, vn, vc, ca, cc, e, h1, TabR.block h1, TabR.mono h2 (fun _ _ h => by obtain ⟨a, n, c, e, h⟩ := h; exact ⟨a, n, c, e, h, h.block⟩), TabR.block h2, h3⟩
  | n + 1, _, _, .node p l, h => by
    obtain ⟨ka, kn, kc, va, vc, ca, cn, cc, e, h1, h2, h3⟩ := h
    exact ⟨ka, kn, kc, va, vc, ca, cn, cc, e, h1, TabR.block h1, h2, TabR.mono h3 (fun _ _ h => NodeIn.on h), TabR.block h3⟩
theorem NodeOn.agree {F : Nat → Prop} : ∀ {n : Nat} {w w' : World} {cs : List Value} {t : Tr}, NodeOn F n w cs t → AgreeF F w w' → NodeOn F n w' cs t
  | 0, _, _, _, _, h, _ => h.elim
  | _ + 1, _, _, _, .leaf p l, h, ha => by
    obtain ⟨ka, kn, kc, va, vn, vc, ca, cc, e, h1, f1, h2, f2, h3⟩ := h
    exact ⟨ka, kn, kc, va, vn, vc, ca, cc, e, TabR.agree h1 f1 ha (fun _ _ _ h => h), f1, TabR.agree h2 f2 ha (fun _ _ _ h => h.agree ha), f2, unit_any h3⟩
  | n + 1, _, _, _, .node p l, h, ha => by
    obtain ⟨ka, kn, kc, va, vc, ca, cn, cc, e, h1, f1, h2, h3, f3⟩ := h
    exact ⟨ka, kn, kc, va, vc, ca, cn, cc, e, TabR.agree h1 f1 ha (fun _ _ _ h => h), f1, unit_any h2, TabR.agree h3 f3 ha (fun _ _ _ h => NodeOn.agree h ha), f3⟩
theorem NodeOn.below {F : Nat → Prop} {n : Nat} {w w' : World} {cs : List Value} {t : Tr} (h : NodeOn F n w cs t) (hb : Below w.heap.size w w') : NodeOn F n w' cs t := h.agree (.of_below hb)
theorem NodeOn.mono {F G : Nat → Prop} (hFG : ∀ b, F b → G b) : ∀ {n : Nat} {w : World} {cs : List Value} {t : Tr}, NodeOn F n w cs t → NodeOn G n w cs t
  | 0, _, _, _, h => h.elim
  | _ + 1, _, _, .leaf p l, h => by
    obtain ⟨ka, kn, kc, va, vn, vc, ca, cc, e, h1, f1, h2, f2, h3⟩ := h
    exact ⟨ka, kn, kc, va, vn, vc, ca, cc, e, h1, f1.mono hFG, TabR.mono h2 (fun _ _ h => h.mono hFG), f2.mono hFG, h3⟩
  | n + 1, _, _, .node p l, h => by
    obtain ⟨ka, kn, kc, va, vc, ca, cn, cc, e, h1, f1, h2, h3, f3⟩ := h
    exact ⟨ka, kn, kc, va, vc, ca, cn, cc, e, h1, f1.mono hFG, h2, TabR.mono h3 (fun _ _ h => NodeOn.mono hFG h), f3.mono hFG⟩
theorem NodeOn.lt {F : Nat → Prop} : ∀ {n : Nat} {w : World} {cs : List Value} {t : Tr}, NodeOn F n w cs t → NodeOn (fun b => F b ∧ b < w.heap.size) n w cs t
  | 0, _, _, _, h => h.elim
  | _ + 1, _, _, .leaf p l, h => by
    obtain ⟨ka, kn, kc, va, vn, vc, ca, cc, e, h1, f1, h2, f2, h3⟩ := h
    exact ⟨ka, kn, kc, va, vn, vc, ca, cc, e, h1, f1.and (TabR.block h1), TabR.mono h2 (fun _ _ h => by obtain ⟨a, n, c, e, h, f⟩ := h; exact ⟨a, n, c, e, h, f.and h.block⟩), f2.and (TabR.block h2), h3⟩
  | n + 1, _, _, .node p l, h => by
    obtain ⟨ka, kn, kc, va, vc, ca, cn, cc, e, h1, f1, h2, h3, f3⟩ := h
    exact ⟨ka, kn, kc, va, vc, ca, cn, cc, e, h1, f1.and (TabR.block h1), h2, TabR.mono h3 (fun _ _ h => NodeOn.lt h), f3.and (TabR.block h3)⟩
theorem NodeOn.more {F : Nat → Prop} : ∀ {n m : Nat} {w : World} {cs : List Value} {t : Tr}, NodeOn F n w cs t → n ≤ m → NodeOn F m w cs t
  | 0, _, _, _, _, h, _ => h.elim
  | n + 1, 0, _, _, _, _, h => by omega
  | _ + 1, _ + 1, _, _, .leaf p l, h, _ => h
  | n + 1, m + 1, _, _, .node p l, h, hm => by
    obtain ⟨ka, kn, kc, va, vc, ca, cn, cc, e, h1, f1, h2, h3, f3⟩ := h
    exact ⟨ka, kn, kc, va, vc, ca, cn, cc, e, h1, f1, h2, TabR.mono h3 (fun _ _ h => NodeOn.more h (by omega)), f3⟩
def NodeRF (F : Nat → Prop) (n : Nat) (w : World) (K : List (Cl 1)) (V : List (Cl 2)) (C : List (Cl 5)) : Tr → Prop
  | .leaf _ l => Tells IsKey K (keysOf l) ∧ Tells (TvOn F w) V (l.map (·.2)) ∧ C = []
  | .node _ l => Tells IsKey K (keysOf l) ∧ V = [] ∧ Tells (NodeOn F n w) C (l.map (·.2))
theorem NodeRF.agree {F : Nat → Prop} {n : Nat} {w w' : World} {K : List (Cl 1)} {V : List (Cl 2)} {C : List (Cl 5)} {t : Tr} (h : NodeRF F n w K V C t) (ha : AgreeF F w w') : NodeRF F n w' K V C t := by
  cases t with
  | leaf p l => exact ⟨h.1, h.2.1.mono (fun _ _ _ h => h.agree ha), h.2.2⟩
  | node p l => exact ⟨h.1, h.2.1, h.2.2.mono (fun _ _ _ h => NodeOn.agree h ha)⟩
theorem NodeRF.below {F : Nat → Prop} {n : Nat} {w w' : World} {K : List (Cl 1)} {V : List (Cl 2)} {C : List (Cl 5)} {t : Tr} (h : NodeRF F n w K V C t) (hb : Below w.heap.size w w') : NodeRF F n w' K V C t := h.agree (.of_below hb)
theorem NodeRF.mono {F G : Nat → Prop} {n : Nat} {w : World} {K : List (Cl 1)} {V : List (Cl 2)} {C : List (Cl 5)} {t : Tr} (h : NodeRF F n w K V C t) (hFG : ∀ b, F b → G b) : NodeRF G n w K V C t := by
  cases t with
  | leaf p l => exact ⟨h.1, h.2.1.mono (fun _ _ _ h => h.mono hFG), h.2.2⟩
  | node p l => exact ⟨h.1, h.2.1, h.2.2.mono (fun _ _ _ h => NodeOn.mono hFG h)⟩
theorem NodeRF.toR {F : Nat → Prop} {n : Nat} {w : World} {K : List (Cl 1)} {V : List (Cl 2)} {C : List (Cl 5)} {t : Tr} (h : NodeRF F n w K V C t) : NodeR n w K V C t := by
  cases t with
  | leaf p l => exact ⟨h.1, h.2.1.mono (fun _ _ _ h => h.toIn), h.2.2⟩
  | node p l => exact ⟨h.1, h.2.1, h.2.2.mono (fun _ _ _ h => h.toIn)⟩
theorem NodeOn.one {F : Nat → Prop} {n : Nat} {w : World} {cs : List Value} {t : Tr} (h : NodeOn F n w cs t) : ∀ u ∈ cs, u.oneCell' = true := h.toIn.one
/-- A node opened. -/
theorem NodeOn.open {F : Nat → Prop} {n : Nat} {w : World} {cs : List Value} {t : Tr} (h : NodeOn F (n + 1) w cs t) :
    ∃ ka kc va vn vc ca cn cc V C, cs = [.int .i64 t.page, .bool t.isLeaf, .slice ka (cntT t) kc, .slice va vn vc, .slice ca cn cc] ∧ Raw 1 w ka (cntT t) kc (t.keys.map kCell) ∧ Raw 2 w va vn vc V ∧ Raw 5 w ca cn cc C ∧ NodeRF F n w (t.keys.map kCell) V C t ∧ Fa F ka (cntT t) ∧ Fa F va vn ∧ Fa F ca cn := by
  cases t with
  | leaf p l =>
    obtain ⟨ka, kn, kc, va, vn, vc, ca, cc, e, h1, f1, h2, f2, h3⟩ := h
    obtain ⟨K, k1, k2⟩ := TabR.raw h1 (fun _ _ h => h.one)
    obtain ⟨V, v1, v2⟩ := TabR.raw h2 (fun _ _ h => h.toIn.one)
    obtain rfl := k2.keys
    have hn := k1.1
    simp [keysOf] at hn
    subst hn
    exact ⟨ka, kc, va, vn, vc, ca, 0, cc, V, [], e, k1, v1, unit_nil h3, ⟨k2, v2, rfl⟩, f1, f2, Fa.zero _ _⟩
  | node p l =>
    obtain ⟨ka, kn, kc, va, vc, ca, cn, cc, e, h1, f1, h2, h3, f3⟩ := h
    obtain ⟨K, k1, k2⟩ := TabR.raw h1 (fun _ _ h => h.one)
    obtain ⟨C, c1, c2⟩ := TabR.raw h3 (fun _ _ h => h.one)
    obtain rfl := k2.keys
    have hn := k1.1
    simp [keysOf] at hn
    subst hn
    exact ⟨ka, kc, va, 0, vc, ca, cn, cc, [], C, e, k1, unit_nil h2, c1, ⟨k2, rfl, c2⟩, f1, Fa.zero _ _, f3⟩
/-- A node shut. -/
theorem NodeOn.shut {F : Nat → Prop} {n : Nat} {w : World} {t : Tr} {ka : Option Addr} {kn kc : Nat} {va : Option Addr} {vn vc : Nat} {ca : Option Addr} {cn cc : Nat} {V : List (Cl 2)} {C : List (Cl 5)} {p : Int} {lf : Bool} {K : List (Cl 1)}
    (hp : t.page = p) (hl : t.isLeaf = lf) (hk : t.keys.map kCell = K) (h1 : Raw 1 w ka kn kc K) (h2 : Raw 2 w va vn vc V) (h3 : Raw 5 w ca cn cc C) (f1 : Fa F ka kn) (f2 : Fa F va vn) (f3 : Fa F ca cn) (h : NodeRF F n w (t.keys.map kCell) V C t) :
    NodeOn F (n + 1) w [.int .i64 p, .bool lf, .slice ka kn kc, .slice va vn vc, .slice ca cn cc] t := by
  subst hp hl hk
  cases t with
  | leaf p l =>
    obtain ⟨g1, g2, rfl⟩ := h
    have := h3.1
    simp at this
    subst this
    exact ⟨ka, kn, kc, va, vn, vc, ca, cc, rfl, h1.tab g1, f1, h2.tab g2, f2, nil_unit h3⟩
  | node p l =>
    obtain ⟨g1, rfl, g2⟩ := h
    have := h2.1
    simp at this
    subst this
    exact ⟨ka, kn, kc, va, vc, ca, cn, cc, rfl, h1.tab g1, f1, nil_unit h2, h3.tab g2, f3⟩
/-- The blocks that were allowed, and those that have come since. -/
def Fr (F : Nat → Prop) (w : World) (b : Nat) : Prop := F b ∨ w.heap.size ≤ b
theorem Fr.old {F : Nat → Prop} {w : World} (b : Nat) (h : F b) : Fr F w b := .inl h
theorem Fr.new {F : Nat → Prop} {w : World} {B : Nat} (hB : w.heap.size ≤ B) (b : Nat) (h : B ≤ b) : Fr F w b := .inr (Nat.le_trans hB h)
/-- A node that a call answers. -/
def NodeTo (F : Nat → Prop) (n : Nat) (w : World) (t : Tr) (e : Ending) (w' : World) : Prop := ∃ cs, e = .returned (.agg cs.toArray) ∧ NodeOn (Fr F w) n w' cs t ∧ Below w.heap.size w w'
end Go.Proofs.YtpghlmcoajaiiaaGreatDoor
