/- Texts that other texts of this claim lean on, one behind the other. -/
import Derived.Test.YtemfnjlfcemehaaM9
import Derived.Test.YtemfnjlfcemehaaM1
import Derived.Test.YtemfnjlfcemehaaM2
import Derived.Deep.RegionHeld3
import Derived.Test.YtemfnjlfcemehaaM6
import Derived.Test.YtemfnjlfcemehaaM8
import Derived.Deep.DeepCutAuto
import Derived.Deep.CutBlock
import Derived.Deep.QuietTactic
import Derived.BigQuiet
import Derived.Test.YtemfnjlfcemehaaM4
/- Rows of the document's cells: the first one's key written over; a node's parts. -/
namespace Go.Proofs.Ytemfnjlfcemehaa
open Go.RowKit

/-- A row of cells of the call's own whose cells stand on some blocks alone. -/
def CellsF (E : TypeId) (F : Nat → Prop) (n B : Nat) (w : World) (v : Value) (l : List Rc) : Prop := ∃ L : List (Cl 4), w.ownsRow B E 4 v l.length (flatC L) ∧ Tells (RcOn F n w) L l
theorem CellsF.nil (E : TypeId) (F : Nat → Prop) (n B : Nat) (w : World) : CellsF E F n B w (.slice none 0 0) [] := ⟨[], own_nil w E 4 B, Tells.nil⟩
theorem CellsF.below {E : TypeId} {F : Nat → Prop} {n B : Nat} {w w' : World} {v : Value} {l : List Rc} (h : CellsF E F n B w v l) (hb : Below w.heap.size w w') : CellsF E F n B w' v l := by
  obtain ⟨L, h1, h2⟩ := h
  exact ⟨L, own_held h1 hb, h2.mono (fun _ _ _ h => h.below hb)⟩
theorem CellsF.set {E : TypeId} {F : Nat → Prop} {n B : Nat} {w : World} {v : Value} {l : List Rc} (h : CellsF E F n B w v l) {p : Addr} (u : Value) (hp : v.ownBlock ≠ some p.block) (hF : ¬ F p.block) : CellsF E F n B (w.setCell p u) v l := by
  obtain ⟨L, h1, h2⟩ := h
  exact ⟨L, own_set h1 p u hp, h2.mono (fun _ _ _ h => h.agree (AgreeF.set ⟨Nat.le_refl _, fun _ _ _ => rfl⟩ (.inl hF)))⟩
theorem CellsF.ge {E : TypeId} {F : Nat → Prop} {n B : Nat} {w : World} {v : Value} {l : List Rc} (h : CellsF E F n B w v l) {b : Nat} (hb : v.ownBlock = some b) : B ≤ b ∧ b < w.heap.size := by
  obtain ⟨L, h1, _⟩ := h
  refine ⟨own_ge h1 b hb, ?_⟩
  rcases h1.2 with ⟨rfl, _⟩ | ⟨g, cap, cur, rfl, _, hg, _⟩
  · cases hb
  · cases hb; exact (Array.getElem?_eq_some_iff.1 hg).1
theorem CellsF.own {E : TypeId} {F : Nat → Prop} {n B : Nat} {w : World} {v : Value} {l : List Rc} (h : CellsF E F n B w v l) (hF : ∀ b, F b → b < B) : CellsOwn E F n B w v l := by
  have hge := fun b hb => (h.ge (b := b) hb).1
  obtain ⟨L, h1, h2⟩ := h
  exact ⟨L, h1, h2.mono (fun _ _ _ h => h.mono (fun b hb => ⟨.inl hb, fun e => by have := hge b e; have := hF b hb; omega⟩))⟩
theorem CellsF.row {P : Program} {E t : TypeId} (ht : P.underlying t = some (.slice E)) (hi : RowInfo P E 4 80) {F : Nat → Prop} {n B : Nat} {w : World} {v : Value} {l : List Rc} (h : CellsF E F n B w v l) (hB : B ≤ w.heap.size) (hF : ∀ b, F b → b < B) (hl : l.length ≤ 100000) {a : Option Addr} {m c : Nat} {l2 : List Rc} (hr : TabR 4 (RcOn F n w) w a m c l2) (hm : m ≤ 100000) :
    ∃ v' w', (Builtin.append_ #[t, t] t #[v, .slice a m c]).run P w = .ok v' w' ∧ CellsF E F n B w' v' (l ++ l2) ∧ w.grownBy w' v.ownBlock := by
  have hge := fun b hb => (h.ge (b := b) hb).1
  obtain ⟨L, h1, h2⟩ := h
  obtain ⟨L2, r1, r2⟩ := TabR.raw hr (fun _ _ h => h.one)
  obtain ⟨i, z, i1, i2, i3, i4, i5⟩ := hi
  have hlm : l2.length = m := by rw [← r2.1]; exact r1.1
  obtain ⟨v', w', hr, ho, hg, hv⟩ := run_append_raw (P := P) B t E i z 4 80 ht i1 i2 i3 i4 i5 (by decide) h1 r1 (by unfold maxLen; omega) (by omega) hB
  refine ⟨v', w', hr, ⟨L ++ L2, ?_, ?_⟩, hg⟩
  · rw [List.length_append, hlm]; exact ho
  · have hag : AgreeF F w w' := ⟨hg.size, fun b hb hlt => hg.block b hlt (fun e => by have := hge b e.symm; have := hF b hb; omega)⟩
    exact (h2.mono (fun _ _ _ h => h.agree hag)).append (r2.mono (fun _ _ _ h => h.agree hag))
/-- The first cell's key written over. -/
theorem CellsF.key0 {E : TypeId} {F : Nat → Prop} {n B : Nat} {w : World} {g m c : Nat} {y : Rc} {r : List Rc} (h : CellsF E F n B w (.slice (some ⟨g, 0, none⟩) m c) (y :: r)) (hF : ¬ F g) (key : List UInt8) :
    CellsF E F n B (w.setCell ⟨g, 0, none⟩ (.string (strOf key))) (.slice (some ⟨g, 0, none⟩) m c) (⟨key, y.val, y.kid⟩ :: r) := by
  obtain ⟨L, h1, h2⟩ := h
  have hag : AgreeF F w (w.setCell ⟨g, 0, none⟩ (.string (strOf key))) := AgreeF.set ⟨Nat.le_refl _, fun _ _ _ => rfl⟩ (.inl hF)
  cases L with
  | nil => have := h2.1; simp at this
  | cons x L' =>
    have hx : RcOn F n w x.1 y := h2.2 0 x y rfl rfl
    obtain ⟨pa, pn, pc, ka, kn, kc, ex, k1, k2, k3, k4⟩ := hx
    have hx' : RcOn F n w [.string (strOf key), .string (strOf y.val.data), .slice pa pn pc, .slice ka kn kc] ⟨key, y.val, y.kid⟩ := ⟨pa, pn, pc, ka, kn, kc, rfl, k1, k2, k3, k4⟩
    have hlen : (y :: r).length = m := by
      rcases h1.2 with ⟨e, _⟩ | ⟨g', cap, cur, e, _⟩
      · cases e
      · cases e; rfl
    have g0 := own_put (by rw [hlen] at h1; exact h1) 0 (.string (strOf key)) (by rw [← hlen]; simp)
    refine ⟨⟨_, hx'.len, hx'.one⟩ :: L', ?_, Tells.cons (hx'.agree hag) ?_⟩
    · have e1 : flatC (x :: L') = x.1 ++ flatC L' := rfl
      have e2 : flatC ((⟨[.string (strOf key), .string (strOf y.val.data), .slice pa pn pc, .slice ka kn kc], hx'.len, hx'.one⟩ : Cl 4) :: L') = [.string (strOf key), .string (strOf y.val.data), .slice pa pn pc, .slice ka kn kc] ++ flatC L' := rfl
      rw [e2]
      rw [e1, ex] at g0
      rw [show (⟨key, y.val, y.kid⟩ :: r : List Rc).length = m by rw [← hlen]; rfl]
      exact g0
    · refine ⟨by have := h2.1; simpa using this, fun i a b ha hb => ?_⟩
      exact (h2.2 (i + 1) a b (by simpa using ha) (by simpa using hb)).agree hag
/-- The cells of a node's parts. -/
theorem cells_part (A : Nat) (kid : Tr) : cellsR (partT A kid).1 = (cellsR kid).take A ∧ (partT A kid).1.page = 0 ∧ (partT A kid).1.isLeaf = kid.isLeaf ∧ (partT A kid).2.1.page = 0 ∧ (partT A kid).2.1.isLeaf = kid.isLeaf := by
  cases kid <;> simp [partT, cellsR, Tr.page, Tr.isLeaf]
theorem cells_part_leaf (A : Nat) (p : Int) (l : List (List UInt8 × Tv)) : cellsR (partT A (.leaf p l)).2.1 = (cellsR (.leaf p l)).drop A := by simp [partT, cellsR]
theorem cells_part_node (A : Nat) (p : Int) (l : List (List UInt8 × Tr)) {y : Rc} {r : List Rc} (h : (cellsR (.node p l)).drop A = y :: r) : cellsR (partT A (.node p l)).2.1 = ⟨[], y.val, y.kid⟩ :: r := by
  simp only [partT, cellsR] at h ⊢
  rw [← List.map_drop] at h
  cases hd : l.drop A with
  | nil => rw [hd] at h; cases h
  | cons c q =>
    rw [hd] at h
    cases h
    rfl
theorem part_key (A : Nat) (kid : Tr) {y : Rc} {r : List Rc} (h : (cellsR kid).drop A = y :: r) : (partT A kid).2.2 = y.key := by
  have hk : (cellsR kid)[A]? = some y := by
    have := congrArg (fun l => l[0]?) h
    simpa [List.getElem?_drop] using this
  cases kid with
  | leaf p l =>
    rw [cellsR_leaf] at hk
    obtain ⟨c, h1, h2⟩ := Option.map_eq_some_iff.1 hk
    subst h2
    simp [partT, keyAt, h1]
  | node p l =>
    rw [cellsR_node] at hk
    obtain ⟨c, h1, h2⟩ := Option.map_eq_some_iff.1 hk
    subst h2
    simp [partT, keyAt, h1]
end Go.Proofs.Ytemfnjlfcemehaa

/- The document's cells with one kid each, made of fresh blocks. -/
namespace Go.Proofs.Ytemfnjlfcemehaa
open Go.RowKit

theorem agr {F : Nat → Prop} (w : World) : AgreeF F w w := ⟨Nat.le_refl _, fun _ _ _ => rfl⟩
theorem agal {F : Nat → Prop} {a w : World} {o : Obj} (h : AgreeF F a w) : AgreeF F a (w.alloc o) := h.trans (.of_below (Below.al (Below.refl _ _)))
theorem agdr {F : Nat → Prop} {a w : World} (h : AgreeF F a w) : AgreeF F a w.drew := h
theorem agst {r : Nat} {a w : World} {i : Nat} {u : Value} (h : AgreeF (fun b => b ≠ r) a w) : AgreeF (fun b => b ≠ r) a (w.setCell ⟨r, i, none⟩ u) := h.set (.inl fun h => h rfl)
/-- A row of one node. -/
theorem one_kid {G : Nat → Prop} {n : Nat} {W : World} {b : Nat} {x0 x1 x2 : Value} {t : Tr} (hx : BoxAt W b #[x0, x1, x2]) (h : RNodeOn G n W [x0, x1, x2] t) : TabR 3 (RNodeOn G n W) W (some ⟨b, 0, none⟩) 1 1 [t] := by
  have hr := raw_box (w := W) (b := b) (L := [(⟨[x0, x1, x2], rfl, h.one⟩ : Cl 3)]) hx (by show 1 ≤ 1000; omega)
  exact Raw.tab hr (Tells.one h)
/-- A cell of a kid. -/
theorem cell_kid {G : Nat → Prop} {n : Nat} {W : World} {b : Nat} {x0 x1 x2 : Value} {t : Tr} (key : List UInt8) (hx : BoxAt W b #[x0, x1, x2]) (h : RNodeOn G n W [x0, x1, x2] t) (hb : G b) :
    RcOn G n W [.string (strOf key), .string (strOf []), .slice none 0 0, .slice (some ⟨b, 0, none⟩) 1 1] ⟨key, ⟨[], []⟩, some t⟩ :=
  ⟨none, 0, 0, some ⟨b, 0, none⟩, 1, 1, rfl, ⟨rfl, Nat.le_refl _, by unfold maxLen; omega, fun _ => rfl, .inl rfl⟩, .inl rfl, one_kid hx h, .inr fun b' off e => by cases e; exact hb⟩
/-- A row of two cells. -/
theorem two_cells {G : Nat → Prop} {n : Nat} {W : World} {z : Nat} {u0 u1 u2 u3 v0 v1 v2 v3 : Value} {y y' : Rc} (hz : BoxAt W z #[u0, u1, u2, u3, v0, v1, v2, v3]) (h : RcOn G n W [u0, u1, u2, u3] y) (g : RcOn G n W [v0, v1, v2, v3] y') :
    TabR 4 (RcOn G n W) W (some ⟨z, 0, none⟩) 2 2 [y, y'] := by
  have hr := raw_box (w := W) (b := z) (L := [(⟨[u0, u1, u2, u3], rfl, h.one⟩ : Cl 4), ⟨[v0, v1, v2, v3], rfl, g.one⟩]) hz (by show 2 ≤ 1000; omega)
  exact Raw.tab hr (Tells.cons h (Tells.one g))
/-- A row of one cell. -/
theorem one_cell {G : Nat → Prop} {n : Nat} {W : World} {z : Nat} {u0 u1 u2 u3 : Value} {y : Rc} (hz : BoxAt W z #[u0, u1, u2, u3]) (h : RcOn G n W [u0, u1, u2, u3] y) :
    TabR 4 (RcOn G n W) W (some ⟨z, 0, none⟩) 1 1 [y] := by
  have hr := raw_box (w := W) (b := z) (L := [(⟨[u0, u1, u2, u3], rfl, h.one⟩ : Cl 4)]) hz (by show 1 ≤ 1000; omega)
  exact Raw.tab hr (Tells.one h)
/-- What is parted, as cells. -/
theorem split_cells {l : List (List UInt8 × Tr)} {k A : Nat} {kid : Tr} {xk : List UInt8} (hx : l[k]? = some (xk, kid)) (hA : atF (sizesT kid) = (A : Int)) (h0 : 0 < A) (p : Int) :
    ∃ m, splitT l k = some m ∧ cellsR (.node 0 m) = (cellsR (.node p l)).take k ++ [⟨xk, ⟨[], []⟩, some (partT A kid).1⟩, ⟨(partT A kid).2.2, ⟨[], []⟩, some (partT A kid).2.1⟩] ++ (cellsR (.node p l)).drop (k + 1) := by
  have hkey : keyAt l k = xk := by unfold keyAt; rw [hx]; rfl
  have hkd : kidAt l k = kid := by unfold kidAt; rw [hx]; rfl
  refine ⟨l.take k ++ ((xk, (partT A kid).1) :: ((partT A kid).2.2, (partT A kid).2.1) :: l.drop (k + 1)), ?_, ?_⟩
  · unfold splitT
    rw [hkd, hkey, hA, if_neg (by omega), Int.toNat_natCast]
  · simp [cellsR, List.map_take, List.map_drop]
/-- What a call of 'with' leaves: a row that is a node's, on some blocks. -/
def RowTo (G : Nat → Prop) (n : Nat) (wc : World) (t : Tr) (m : Nat) (e : Ending) (w' : World) : Prop :=
  ∃ a d, e = .returned (.slice a m d) ∧ RNodeOn G (n + 1) w' [.int .i64 0, .bool t.isLeaf, .slice a m d] t ∧ Below wc.heap.size wc w'
theorem row_to {G : Nat → Prop} {n : Nat} {wc W w' : World} {e : Ending} {t : Tr} {m : Nat} {cs : List Rc} (hp : t.page = 0) (hm : cntT t = m) (hl : cellsR t = cs) (hb : Below wc.heap.size wc W) (hG : ∀ b, W.heap.size ≤ b → G b)
    (h : CellsTo (fun x => G x ∧ x < W.heap.size) n W cs e w') : RowTo G n wc t m e w' := by
  subst hl hm
  obtain ⟨v, rfl, h1, h2⟩ := h
  obtain ⟨a, d, rfl, _, _, k1, k2⟩ := h1.sl
  rw [cellsR_len] at k1 k2 ⊢
  refine ⟨a, d, rfl, ?_, below_via hb h2⟩
  have := RNodeOn.mk (t := t) (F := G) (TabR.mono k1 (fun _ _ h => h.mono (fun b hb => by
    rcases hb.1 with hb | hb
    · exact hb.1
    · exact hG b hb))) (k2.mono hG)
  rw [hp] at this
  exact this
/-- 'with', for a node. -/
theorem with_to {G : Nat → Prop} {n : Nat} {wc W : World} {a : Option Addr} {m c : Nat} {L : List Rc} {a2 : Option Addr} {m2 c2 k : Nat} {l2 : List Rc} {t : Tr} {q : Nat} (hp : t.page = 0) (hq : cntT t = q) (hl : cellsR t = L.take k ++ l2 ++ L.drop (k + 1)) (hb : Below wc.heap.size wc W) (hG : ∀ b, wc.heap.size ≤ b → G b)
    (h : TabR 4 (RcOn G n W) W a m c L) (g : TabR 4 (RcOn G n W) W a2 m2 c2 l2) (hk : k < m) (hm : m ≤ 2000) (hm2 : m2 ≤ 2000) :
    Calls Try.prog 75 #[.slice a m c, .int .i64 (k : Int), .slice a2 m2 c2] W (RowTo G n wc t q) :=
  (with_any (fun _ h => h.2) (TabR.mono h (fun _ _ hy => RcOn.lt hy)) (TabR.mono g (fun _ _ hy => RcOn.lt hy)) hk hm hm2).mono fun _ _ h => row_to hp hq hl hb (fun b h => hG b (Nat.le_trans hb.size h)) h
/-- 'with' of two fresh cells. -/
theorem with_two {G : Nat → Prop} {n : Nat} {wc W : World} {a : Option Addr} {m c k : Nat} {L : List Rc} {t : Tr} {q : Nat} (hp : t.page = 0) (hq : cntT t = q) (hb : Below wc.heap.size wc W) (hG : ∀ b, wc.heap.size ≤ b → G b) (h : TabR 4 (RcOn G n wc) wc a m c L) (hk : k < m) (hm : m ≤ 2000) {ra rb z : Nat} {xk key : List UInt8} {TA TB : Tr} {x0 x1 x2 y0 y1 y2 : Value} {v0 : _}
    (hl : cellsR t = L.take k ++ [⟨xk, ⟨[], []⟩, some TA⟩, ⟨key, ⟨[], []⟩, some TB⟩] ++ L.drop (k + 1)) (hv : v0 = strOf []) (g1 : RNodeOn G n wc [x0, x1, x2] TA) (g2 : RNodeOn G n wc [y0, y1, y2] TB) (r1 : wc.heap.size ≤ ra) (r2 : wc.heap.size ≤ rb)
    (hA : BoxAt W ra #[x0, x1, x2]) (hB : BoxAt W rb #[y0, y1, y2]) (hz : BoxAt W z #[.string (strOf xk), .string v0, .slice none 0 0, .slice (some ⟨ra, 0, none⟩) 1 1, .string (strOf key), .string v0, .slice none 0 0, .slice (some ⟨rb, 0, none⟩) 1 1]) :
    Calls Try.prog 75 #[.slice a m c, .int .i64 (k : Int), .slice (some ⟨z, 0, none⟩) 2 2] W (RowTo G n wc t q) := by
  subst hv
  exact with_to hp hq hl hb hG (TabR.mono (TabR.below (Nat.le_refl _) hb h) (fun _ _ hy => RcOn.below hy hb)) (two_cells hz (cell_kid xk hA (g1.below hb) (hG _ r1)) (cell_kid key hB (g2.below hb) (hG _ r2))) hk hm (by omega)
/-- 'with' of one fresh cell. -/
theorem with_one {G : Nat → Prop} {n : Nat} {wc W : World} {a : Option Addr} {m c k : Nat} {L : List Rc} {t : Tr} {q : Nat} (hp : t.page = 0) (hq : cntT t = q) (hb : Below wc.heap.size wc W) (hG : ∀ b, wc.heap.size ≤ b → G b) (h : TabR 4 (RcOn G n wc) wc a m c L) (hk : k < m) (hm : m ≤ 2000) {ra z : Nat} {xk : List UInt8} {TA : Tr} {x0 x1 x2 : Value} {v0 : _}
    (hl : cellsR t = L.take k ++ [⟨xk, ⟨[], []⟩, some TA⟩] ++ L.drop (k + 1)) (hv : v0 = strOf []) (g1 : RNodeOn G n wc [x0, x1, x2] TA) (r1 : wc.heap.size ≤ ra)
    (hA : BoxAt W ra #[x0, x1, x2]) (hz : BoxAt W z #[.string (strOf xk), .string v0, .slice none 0 0, .slice (some ⟨ra, 0, none⟩) 1 1]) :
    Calls Try.prog 75 #[.slice a m c, .int .i64 (k : Int), .slice (some ⟨z, 0, none⟩) 1 1] W (RowTo G n wc t q) := by
  subst hv
  exact with_to hp hq hl hb hG (TabR.mono (TabR.below (Nat.le_refl _) hb h) (fun _ _ hy => RcOn.below hy hb)) (one_cell hz (cell_kid xk hA (g1.below hb) (hG _ r1))) hk hm (by omega)
/-- A node beside a box that is none of its blocks: the box written over. -/
theorem RNodeOn.put3 {G : Nat → Prop} {n : Nat} {W : World} {cs : List Value} {t : Tr} (h : RNodeOn G n W cs t) {r : Nat} (hr : ¬ G r) (u0 u1 u2 : Value) : RNodeOn G n (((W.setCell ⟨r, 0, none⟩ u0).setCell ⟨r, 1, none⟩ u1).setCell ⟨r, 2, none⟩ u2) cs t :=
  h.agree (((AgreeF.set (AgreeF.set (AgreeF.set ⟨Nat.le_refl _, fun _ _ _ => rfl⟩ (.inl hr)) (.inl hr)) (.inl hr))))
end Go.Proofs.Ytemfnjlfcemehaa

/- The document's cells put together; a fresh cell appended; a node's end. -/
namespace Go.Proofs.Ytemfnjlfcemehaa
open Go.RowKit

/-- The second node's cells, behind the first one's. -/
def firstRc (key : List UInt8) (lf : Bool) : List Rc → List Rc
  | [] => []
  | y :: r => if lf then y :: r else ⟨key, y.val, y.kid⟩ :: r
theorem firstRc_len (key : List UInt8) (lf : Bool) (L : List Rc) : (firstRc key lf L).length = L.length := by
  cases L with
  | nil => rfl
  | cons y r => cases lf <;> rfl
theorem firstRc_at (key : List UInt8) (lf : Bool) (L : List Rc) (i : Nat) {y : Rc} (h : L[i]? = some y) : (firstRc key lf L)[i]? = some (if i = 0 ∧ lf = false then ⟨key, y.val, y.kid⟩ else y) := by
  cases L with
  | nil => simp at h
  | cons x r =>
    cases i with
    | zero => simp at h; subst h; cases lf <;> simp [firstRc]
    | succ i => simp at h; cases lf <;> simp [firstRc, h]
theorem firstRc_succ (key : List UInt8) (lf : Bool) (L : List Rc) (i : Nat) {y : Rc} (h : L[i]? = some y) : (firstRc key lf L).take (i + 1) = (firstRc key lf L).take i ++ [if i = 0 ∧ lf = false then ⟨key, y.val, y.kid⟩ else y] := by
  rw [List.take_add_one, firstRc_at key lf L i h]; rfl
theorem join_cells {key : List UInt8} {a b : Tr} (h : a.isLeaf = b.isLeaf) : cellsR (joinT key a b) = cellsR a ++ firstRc key b.isLeaf (cellsR b) ∧ (joinT key a b).page = 0 ∧ (joinT key a b).isLeaf = a.isLeaf := by
  cases a with
  | leaf p l =>
    cases b with
    | leaf q m => exact ⟨by cases m <;> simp [joinT, cellsR, firstRc, Tr.isLeaf], rfl, rfl⟩
    | node q m => cases h
  | node p l =>
    cases b with
    | leaf q m => cases h
    | node q m => exact ⟨by cases m <;> simp [joinT, cellsR, firstRc, Tr.isLeaf, firstK], rfl, rfl⟩
theorem join_rows {l : List (List UInt8 × Tr)} {j : Nat} (hj : j + 1 < l.length) (p : Int) :
    cellsR (.node 0 (l.take (j + 1) ++ l.drop (j + 2))) = (cellsR (.node p l)).take (j + 1) ++ [] ++ (cellsR (.node p l)).drop (j + 1 + 1) ∧
    cellsR (.node 0 (joined l j)) = (cellsR (.node 0 (l.take (j + 1) ++ l.drop (j + 2)))).take j ++ [⟨keyAt l j, ⟨[], []⟩, some (joinT (keyAt l (j + 1)) (kidAt l j) (kidAt l (j + 1)))⟩] ++ (cellsR (.node 0 (l.take (j + 1) ++ l.drop (j + 2)))).drop (j + 1) ∧
    (l.take (j + 1) ++ l.drop (j + 2)).length + 1 = l.length ∧ (joined l j).length + 1 = l.length := by
  have h1 : (l.take (j + 1)).length = j + 1 := by simp; omega
  have h2 : (l.take (j + 1) ++ l.drop (j + 2)).take j = l.take j := by rw [List.take_append_of_le_length (by omega), List.take_take, Nat.min_eq_left (by omega)]
  have h3 : (l.take (j + 1) ++ l.drop (j + 2)).drop (j + 1) = l.drop (j + 2) := by rw [List.drop_append_of_le_length (by omega), List.drop_eq_nil_of_le (by omega), List.nil_append]
  refine ⟨by simp [cellsR, List.map_take, List.map_drop], ?_, by simp; omega, by unfold joined; simp; omega⟩
  simp only [cellsR]
  rw [← List.map_take, ← List.map_drop, h2, h3]
  simp [joined]
/-- A fresh cell appended. -/
theorem CellsF.append {P : Program} {E t : TypeId} (ht : P.underlying t = some (.slice E)) (hi : RowInfo P E 4 80) {F : Nat → Prop} {n B : Nat} {w : World} {v : Value} {l : List Rc} (h : CellsF E F n B w v l) (hB : B ≤ w.heap.size) (hF : ∀ b, F b → b < B) (hl : l.length ≤ 100000) {cs : List Value} {y : Rc} (hy : RcOn F n w cs y) :
    ∃ v' w', (Builtin.append_ #[t, t] t #[v, .slice (some ⟨w.heap.size, 0, none⟩) 1 1]).run P (w.alloc (.cells cs.toArray E)) = .ok v' w' ∧ CellsF E F n B w' v' (l ++ [y]) ∧ w.grownBy w' v.ownBlock := by
  have hge := fun b hb => (h.ge (b := b) hb).1
  obtain ⟨L, h1, h2⟩ := h
  obtain ⟨i, z, i1, i2, i3, i4, i5⟩ := hi
  obtain ⟨v', w', hr, ho, hg, hv⟩ := run_append_new (P := P) B t E i z 4 80 ht i1 i2 i3 i4 i5 (by decide) h1 cs.toArray (by simpa using hy.len) (by simpa using hy.one) (by unfold maxLen; omega) (by omega) hB
  refine ⟨v', w', hr, ⟨L ++ [⟨cs, hy.len, hy.one⟩], ?_, ?_⟩, hg⟩
  · have e : flatC (L ++ [⟨cs, hy.len, hy.one⟩]) = flatC L ++ cs := by rw [flatC_append]; exact congrArg (flatC L ++ ·) (List.append_nil cs)
    rw [e, List.length_append]; exact ho
  · have hag : AgreeF F w w' := ⟨hg.size, fun b hb hlt => hg.block b hlt (fun e => by have := hge b e.symm; have := hF b hb; omega)⟩
    exact (h2.mono (fun _ _ _ h => h.agree hag)).append (Tells.one (hy.agree hag))
/-- A walk's end: three cells stored into the result's box. -/
theorem rnode_end {F G : Nat → Prop} {n : Nat} {w w' : World} {T : Tr} {r : Nat} {p : Int} {lf : Bool} {a : Option Addr} {m d : Nat} (hr : w.heap.size ≤ r) (hG : ¬ G r) (hGF : ∀ b, G b → Fr F w b) (h : RNodeOn G n w' [.int .i64 p, .bool lf, .slice a m d] T) (hb : Below w.heap.size w w') :
    RNodeTo F n w T (.returned (.agg #[.int .i64 p, .bool lf, .slice a m d])) (((w'.setCell ⟨r, 0, none⟩ (.int .i64 p)).setCell ⟨r, 1, none⟩ (.bool lf)).setCell ⟨r, 2, none⟩ (.slice a m d)) :=
  ⟨[.int .i64 p, .bool lf, .slice a m d], rfl, (h.put3 hG _ _ _).mono hGF, ((hb.setCell (by simpa using hr) _).setCell (by simpa using hr) _).setCell (by simpa using hr) _⟩
/-- The same, with what the box holds then. -/
theorem rend {F G : Nat → Prop} {n : Nat} {w w' : World} {T : Tr} {r : Nat} {p : Int} {lf : Bool} {a : Option Addr} {m d : Nat} {x0 x1 x2 : Value} (hx : Boxes w' [(r, [x0, x1, x2])]) (hr : w.heap.size ≤ r) (hG : ¬ G r) (hGF : ∀ b, G b → Fr F w b) (h : RNodeOn G n w' [.int .i64 p, .bool lf, .slice a m d] T) (hb : Below w.heap.size w w') :
    (((w'.setCell ⟨r, 0, none⟩ (.int .i64 p)).setCell ⟨r, 1, none⟩ (.bool lf)).setCell ⟨r, 2, none⟩ (.slice a m d)).cell? ⟨r, 0, none⟩ = some (.int .i64 p) ∧
    (((w'.setCell ⟨r, 0, none⟩ (.int .i64 p)).setCell ⟨r, 1, none⟩ (.bool lf)).setCell ⟨r, 2, none⟩ (.slice a m d)).cell? ⟨r, 1, none⟩ = some (.bool lf) ∧
    (((w'.setCell ⟨r, 0, none⟩ (.int .i64 p)).setCell ⟨r, 1, none⟩ (.bool lf)).setCell ⟨r, 2, none⟩ (.slice a m d)).cell? ⟨r, 2, none⟩ = some (.slice a m d) ∧
    Hid (RNodeTo F n w T (.returned (.agg #[.int .i64 p, .bool lf, .slice a m d])) (((w'.setCell ⟨r, 0, none⟩ (.int .i64 p)).setCell ⟨r, 1, none⟩ (.bool lf)).setCell ⟨r, 2, none⟩ (.slice a m d))) := by
  have hxe := ((hx.put 0 (.int .i64 p) (by simp)).put 1 (.bool lf) (by simp)).put 2 (.slice a m d) (by simp)
  exact ⟨hxe.cell 0 0 rfl rfl, hxe.cell 0 1 rfl rfl, hxe.cell 0 2 rfl rfl, Lib.hid (rnode_end hr hG hGF h hb)⟩
theorem RNodeTo.split {F : Nat → Prop} {n : Nat} {w w' : World} {t : Tr} {e : Ending} (h : RNodeTo F n w t e w') : ∃ p l a m d, e = .returned (.agg #[.int .i64 p, .bool l, .slice a m d]) ∧ RNodeOn (Fr F w) n w' [.int .i64 p, .bool l, .slice a m d] t ∧ Below w.heap.size w w' := by
  obtain ⟨cs, rfl, h1, h2⟩ := h
  cases n with
  | zero => exact h1.elim
  | succ n =>
    obtain ⟨a, c, rfl, _⟩ := h1.at
    exact ⟨_, _, _, _, _, rfl, h1, h2⟩
theorem RNodeOn.row {G : Nat → Prop} {n : Nat} {w : World} {x y : Value} {a : Option Addr} {m d : Nat} {t : Tr} (h : RNodeOn G (n + 1) w [x, y, .slice a m d] t) (hm : cntT t = m) : TabR 4 (RcOn G n w) w a m d (cellsR t) := by
  obtain ⟨a', d', e, h1, _⟩ := h.at
  simp only [List.cons.injEq, Value.slice.injEq, and_true] at e
  obtain ⟨_, _, rfl, _, rfl⟩ := e
  rw [hm] at h1
  exact h1
/-- A kid in its cell. -/
theorem RNodeOn.kid {F : Nat → Prop} {n : Nat} {w : World} {a : Option Addr} {m c : Nat} {p : Int} {l : List (List UInt8 × Tr)} (h : TabR 4 (RcOn F n w) w a m c (cellsR (.node p l))) {k : Nat} (hk : k < m) :
    ∃ b off bk ok kcs pa pn pc kc, a = some ⟨b, off, none⟩ ∧ b < w.heap.size ∧ bk < w.heap.size ∧ RNodeOn F n w kcs (kidAt l k) ∧ w.cell? ⟨b, off + k * 4, none⟩ = some (.string (strOf (keyAt l k))) ∧ w.cell? ⟨b, off + k * 4 + 1, none⟩ = some (.string (strOf [])) ∧ w.cell? ⟨b, off + k * 4 + 2, none⟩ = some (.slice pa pn pc) ∧
      w.cell? ⟨b, off + k * 4 + 3, none⟩ = some (.slice (some ⟨bk, ok, none⟩) 1 kc) ∧ (∀ j v, kcs[j]? = some v → w.cell? ⟨bk, ok + j, none⟩ = some v) ∧ 1 ≤ kc ∧ kc ≤ 9223372036854775807 := by
  obtain ⟨b, off, y, pa, pn, pc, ka, kn, kc, rfl, hbb, hy, _, _, _, hkid, hfk, c0, c1, c2, c3⟩ := RNodeOn.cell h hk
  rw [cellsR_node] at hy
  obtain ⟨x, hx1, hx2⟩ := Option.map_eq_some_iff.1 hy
  subst hx2
  have s1 := hkid.lens
  obtain rfl : kn = 1 := s1.1.symm
  obtain ⟨bk, ok, kd, kcs, rfl, hbk, hyk, _, hon, hck⟩ := TabR.at hkid (show 0 < 1 by omega)
  cases hyk
  have hkey : keyAt l k = x.1 := by unfold keyAt; rw [hx1]; rfl
  have hkd : kidAt l k = x.2 := by unfold kidAt; rw [hx1]; rfl
  refine ⟨b, off, bk, ok, kcs, pa, pn, pc, kc, rfl, hbb, hbk, by rw [hkd]; exact hon, by rw [hkey]; exact c0, c1, c2, c3, fun j v hv => by simpa using hck j v hv, s1.2.1, s1.2.2⟩
end Go.Proofs.Ytemfnjlfcemehaa

/- The walks of trees: the document's Sizes and Way. -/
namespace Go.Proofs.Ytemfnjlfcemehaa
open Go.RowKit

theorem IsLcAt {w : World} {a : Option Addr} {n c : Nat} {l : List (List UInt8 × Tv)} (h : TabR 4 (IsLc w) w a n c l) {k : Nat} (hk : k < n) :
    ∃ b off y, a = some ⟨b, off, none⟩ ∧ b < w.heap.size ∧ l[k]? = some y ∧ w.cell? ⟨b, off + k * 4, none⟩ = some (.string (strOf y.1)) ∧ w.cell? ⟨b, off + k * 4 + 1, none⟩ = some (.string (strOf y.2.data)) := by
  obtain ⟨b, off, y, cs, e1, e2, e3, _, ⟨pa, pn, pc, ka, kc, rfl, _⟩, e6⟩ := TabR.at h hk
  exact ⟨b, off, y, e1, e2, e3, e6 0 _ rfl, e6 1 _ rfl⟩
theorem IsNcAt {n : Nat} {w : World} {a : Option Addr} {m c : Nat} {l : List (List UInt8 × Tr)} (h : TabR 4 (IsNc n w) w a m c l) {k : Nat} (hk : k < m) :
    ∃ b off y, a = some ⟨b, off, none⟩ ∧ b < w.heap.size ∧ l[k]? = some y ∧ w.cell? ⟨b, off + k * 4, none⟩ = some (.string (strOf y.1)) := by
  obtain ⟨b, off, y, cs, e1, e2, e3, _, ⟨pa, pc, ka, kc, rfl, _⟩, e6⟩ := TabR.at h hk
  exact ⟨b, off, y, e1, e2, e3, e6 0 _ rfl⟩
theorem RIn.node {n : Nat} {w : World} {cs : List Value} {p : Int} {l : List (List UInt8 × Tr)} (h : RIn (n + 1) w cs (.node p l)) : ∃ a m c, cs = [.int .i64 p, .bool false, .slice a m c] ∧ TabR 4 (IsNc n w) w a m c l := h
theorem RIn.leaf {n : Nat} {w : World} {cs : List Value} {p : Int} {l : List (List UInt8 × Tv)} (h : RIn (n + 1) w cs (.leaf p l)) : ∃ a m c, cs = [.int .i64 p, .bool true, .slice a m c] ∧ TabR 4 (IsLc w) w a m c l := h
/-- A node's first two cells, and its row; keys of it. -/
theorem RIn.any {n : Nat} {w : World} {cs : List Value} {t : Tr} (h : RIn (n + 1) w cs t) : ∃ a c, cs = [.int .i64 t.page, .bool t.isLeaf, .slice a (cntT t) c] ∧ cntT t ≤ c ∧ c ≤ 9223372036854775807 ∧ t.keys.length = cntT t ∧
    ∀ k, k < cntT t → ∃ b off, a = some ⟨b, off, none⟩ ∧ b < w.heap.size ∧ w.cell? ⟨b, off + k * 4, none⟩ = some (.string (strOf (t.keys[k]?.getD []))) := by
  cases t with
  | leaf p l =>
    obtain ⟨a, m, c, rfl, h1⟩ := h.leaf
    obtain ⟨e1, e2, e3⟩ := h1.lens
    subst e1
    refine ⟨a, c, rfl, e2, e3, by simp [Tr.keys, keysOf, cntT], fun k hk => ?_⟩
    obtain ⟨b, off, y, f1, f2, f3, f4, _⟩ := IsLcAt h1 hk
    exact ⟨b, off, f1, f2, by rw [f4]; simp [Tr.keys, keysOf, f3]⟩
  | node p l =>
    obtain ⟨a, m, c, rfl, h1⟩ := h.node
    obtain ⟨e1, e2, e3⟩ := h1.lens
    subst e1
    refine ⟨a, c, rfl, e2, e3, by simp [Tr.keys, keysOf, cntT], fun k hk => ?_⟩
    obtain ⟨b, off, y, f1, f2, f3, f4⟩ := IsNcAt h1 hk
    exact ⟨b, off, f1, f2, by rw [f4]; simp [Tr.keys, keysOf, f3]⟩
theorem wayD_step (ks : List (List UInt8)) (key : List UInt8) (n : Nat) : wayD ks key (n + 1) = if key < ks[n + 1]?.getD [] then wayD ks key n else n + 1 := rfl

set_option maxRecDepth 100000 in
set_option maxHeartbeats 2000000 in
theorem rway_any {n : Nat} {w : World} {cs : List Value} {t : Tr} (h : RIn n w cs t) (key : List UInt8) (hc : cntT t ≤ 1000) :
    Calls Try.prog 47 #[.agg cs.toArray, .string (strOf key)] w fun e w' => e = .returned (.int .i64 (wayF t.keys key : Int)) ∧ Below w.heap.size w w' := by
  cases n with
  | zero => exact h.elim
  | succ n =>
  obtain ⟨a, c, rfl, h2, h3, h4, h5⟩ := h.any
  have HC := Lib.hid h5
  have HL := Lib.hid h4
  have hA : Below w.heap.size w (w.alloc (.cells #[.int .i64 t.page, .bool t.isLeaf, .slice a (cntT t) c] 26)) := (Below.refl _ _).alloc (Nat.le_refl _) _
  have HBX := Lib.hid ((Boxes.nil w).alloc #[.int .i64 t.page, .bool t.isLeaf, .slice a (cntT t) c] 26 rfl)
  have HW : Hid (wayF t.keys key = wayD t.keys key (cntT t - 1)) := Lib.hid (by unfold wayF; rw [h4])
  generalize t.keys = K at *
  generalize cntT t = m at *
  generalize t.page = pg at *
  generalize t.isLeaf = lf at *
  obtain ⟨R, hR⟩ : ∃ R, wayF K key = R := ⟨_, rfl⟩
  rw [hR] at HW ⊢
  obtain ⟨wA, hwA⟩ : ∃ wA, w.alloc (.cells #[.int .i64 pg, .bool lf, .slice a m c] 26) = wA := ⟨_, rfl⟩
  rw [hwA] at hA HBX
  have HA := Lib.hid hA
  have f2 := HBX.out.cell 0 2 rfl rfl
  clear h h4 h5 hR hA
  go_enter Try.func47, Try.ntmps47
  go_wp2_with fail
  clear hwA
  go_loop [5] (fun s => (m = 0 ∧ s = .int .i64 (-1)) ∨ (0 < m ∧ ∃ i : Nat, i < m ∧ s = .int .i64 i ∧ R = wayD K key i)) (fun s => (intOf s).toNat)
  case atStart =>
    by_cases h0 : m = 0
    · exact .inl ⟨h0, by rw [h0]; rfl⟩
    · exact .inr ⟨by omega, m - 1, by omega, by congr 1; omega, HW.out⟩
  case round =>
    rcases hrel with ⟨rfl, rfl⟩ | ⟨hm, i, hi, rfl, hr⟩
    · go_wp2_with fail
      go_ret
      exact ⟨ret_int (by rw [HW.out]; rfl), HA.out⟩
    · cases i with
      | zero =>
        have HR := Lib.hid hr
        clear hr
        go_wp2_with fail
        go_ret
        exact ⟨ret_int (by rw [HR.out] <;> rfl), HA.out⟩
      | succ i =>
        have d0 : decide ((0 : Int) < ((i + 1 : Nat) : Int)) = true := by simp <;> omega
        obtain ⟨b, off, rfl, hb, hcell⟩ := HC.out (i + 1) hi
        have c1 := (HA.out.cell (p := ⟨b, off + (i + 1) * 4, none⟩) hb).trans hcell
        rw [wayD_step] at hr
        generalize K[i + 1]?.getD [] = k at *
        clear hcell
        rcases ktri key k with hlt | rfl | hlt
        · rw [if_pos hlt] at hr
          obtain ⟨_, e3, e1, e2⟩ := cmp_lt hlt
          clear e3
          have HR := Lib.hid hr
          clear hr hlt
          go_wp2_with fail
          go_round
          case rel => exact .inr ⟨hm, i, by omega, by first | rfl | (congr 1; omega), HR.out⟩
          case measure => simp [intOf] <;> omega
        · rw [if_neg (klt_irrefl _)] at hr
          obtain ⟨e1, e2⟩ := cmp_eq key
          have HR := Lib.hid hr
          clear hr
          go_wp2_with fail
          go_ret
          exact ⟨ret_int (by rw [HR.out]; go_num), HA.out⟩
        · rw [if_neg (klt_asymm hlt)] at hr
          obtain ⟨e1, e2, e3, e4⟩ := cmp_lt hlt
          clear e3 e4
          have HR := Lib.hid hr
          clear hr hlt
          go_wp2_with fail
          go_ret
          exact ⟨ret_int (by rw [HR.out]; go_num), HA.out⟩
end Go.Proofs.Ytemfnjlfcemehaa

/- The document's nodes, read in a world; a cell set. -/
namespace Go.Proofs.Ytemfnjlfcemehaa
open Go.RowKit

theorem TabR.unmap {α β : Type} {sz : Nat} {R : List Value → β → Prop} {f : α → β} {w : World} {a : Option Addr} {n c : Nat} {l : List α} (h : TabR sz R w a n c (l.map f)) : TabR sz (fun cs y => R cs (f y)) w a n c l := by
  obtain ⟨h1, h2, h3, hn, h4⟩ := h
  refine ⟨by simpa using h1, h2, h3, hn, ?_⟩
  rcases h4 with h4 | ⟨b, off, h5, h6, h7⟩
  · exact .inl h4
  · exact .inr ⟨b, off, h5, h6, fun i y hy => h7 i (f y) (by rw [List.getElem?_map, hy]; rfl)⟩
theorem RNodeOn.toRIn {F : Nat → Prop} : ∀ {n : Nat} {w : World} {cs : List Value} {t : Tr}, RNodeOn F n w cs t → RIn n w cs t
  | 0, _, _, _, h => h.elim
  | n + 1, w, cs, .leaf p l, h => by
    obtain ⟨a, c, e, h1, _⟩ := h.at
    refine ⟨a, _, c, e, TabR.mono (TabR.unmap h1) (fun cs y hy => ?_)⟩
    obtain ⟨pa, pn, pc, ka, kn, kc, e, k1, _, k2, _⟩ := hy
    obtain rfl : kn = 0 := k2.1.symm
    exact ⟨pa, pn, pc, ka, kc, e, k1, unit_any k2⟩
  | n + 1, w, cs, .node p l, h => by
    obtain ⟨a, c, e, h1, _⟩ := h.at
    refine ⟨a, _, c, e, TabR.mono (TabR.unmap h1) (fun cs y hy => ?_)⟩
    obtain ⟨pa, pn, pc, ka, kn, kc, e, k1, _, k2, _⟩ := hy
    obtain rfl : kn = 1 := k2.1.symm
    obtain rfl : pn = 0 := k1.1.symm
    exact ⟨pa, pc, ka, kc, e, k1, TabR.mono k2 (fun _ _ h => h.toRIn)⟩
theorem set_cells {l : List (List UInt8 × Tr)} {k : Nat} (hk : k < l.length) (p : Int) (key : List UInt8) (T : Tr) :
    cellsR (.node 0 (l.set k (key, T))) = (cellsR (.node p l)).take k ++ [⟨key, ⟨[], []⟩, some T⟩] ++ (cellsR (.node p l)).drop (k + 1) := by
  obtain ⟨a, c, b, rfl, rfl⟩ := list_at hk
  rw [List.set_append_right _ _ (Nat.le_refl _), Nat.sub_self, List.set_cons_zero]
  simp [cellsR, List.drop_append]
end Go.Proofs.Ytemfnjlfcemehaa

/- The document's Sizes (printed by gen_treRs.py). -/
namespace Go.Proofs.Ytemfnjlfcemehaa
open Go.RowKit

set_option maxRecDepth 100000 in
set_option maxHeartbeats 4000000 in
theorem rsizes_node {n : Nat} {F : Nat → Prop} {w : World} {cs : List Value} {p : Int} {l : List (List UInt8 × Tr)} (h : RNodeOn F (n + 1) w cs (.node p l)) (hb : Bnd (n + 1) (.node p l)) :
    Calls Try.prog 65 #[.agg cs.toArray] w (SizesPost w (sizesT (.node p l))) := by
  obtain ⟨a, c, rfl, h1, _⟩ := h.at
  obtain ⟨g1, g2⟩ := hb
  obtain ⟨e1, e2, e3⟩ := h1.lens
  obtain ⟨kn, hkn'⟩ : ∃ x, cntT (.node p l) = x := ⟨_, rfl⟩
  have hkl : l.length = kn := hkn'
  rw [hkn'] at h1 e1 e2 ⊢
  have hsl : (sizesT (.node p l)).length = kn := by rw [sizes_len_node, hkl]
  have HS : Hid (∀ (i : Nat) (x : List UInt8 × Tr), l[i]? = some x → (sizesT (.node p l))[i]?.getD 0 = 4 + (x.1.length : Int) ∧ x.1.length ≤ 200) := Lib.hid (fun i x hx => by
    have := (g2 x (List.mem_of_getElem? hx)).1
    simp [sizesT, hx, this])
  have HV := Lib.hid h1
  have HSL := Lib.hid hsl
  have hkn : kn ≤ 1000 := by omega
  obtain ⟨i0, hi0, hz0, hz1, hz2⟩ := info_parts info_intT
  show Calls _ _ #[.agg #[.int .i64 p, .bool false, .slice a kn c]] _ _
  have hA : Below w.heap.size w (w.alloc (.cells #[.int .i64 p, .bool false, .slice a kn c] 26)) := (Below.refl _ _).alloc (Nat.le_refl _) _
  have HBX := Lib.hid ((Boxes.nil w).alloc #[.int .i64 p, .bool false, .slice a kn c] 26 (b := w.heap.size) rfl)
  generalize sizesT (.node p l) = S at *
  clear h h1 g1 g2 e1 hkl hsl hkn'
  go_enter Try.func65, Try.ntmps65
  go_wp2_with fail
  go_loopw [3, 4] (fun s3 s4 wr => ∃ i : Nat, i ≤ kn ∧ s4 = .int .i64 i ∧ wr.ownsRow w.heap.size 3 1 s3 i ((S.take i).map (Value.int .i64)) ∧ Below w.heap.size w wr ∧ Boxes wr [(w.heap.size, [.int .i64 p, .bool false, .slice a kn c])] ∧ s3.ownBlock ≠ some w.heap.size) (fun _ s _ => kn - (intOf s).toNat)
  case atStart => exact ⟨0, Nat.zero_le _, rfl, World.ownsRow_nil _ _ _ _, hA, HBX.out, by simp [Value.ownBlock]⟩
  case round =>
    clear HBX hA
    obtain ⟨i, hi, rfl, hown, hb, hbx, hnb⟩ := hrel
    have f1 := hbx.cell 0 1 rfl rfl
    have f2 := hbx.cell 0 2 rfl rfl
    by_cases hlt : i < kn
    rotate_left
    · obtain rfl : i = kn := by omega
      have HE : Hid (SizesPost w S (.returned u3) wr) := Lib.hid ⟨_, rfl, by rw [HSL.out]; rw [List.take_of_length_le (by rw [HSL.out]; exact Nat.le_refl _)] at hown; exact hown, hb⟩
      clear hown hb hbx hnb
      go_wp2_with fail
      go_ret
      exact HE.out
    obtain ⟨b, off, y, pa, pn, pc, ka, kn', kc, rfl, hbb, hy, _, _, _, _, _, c0, c1, _, _⟩ := RNodeOn.cell HV.out hlt
    have hst := Lib.hid (tk_succ S i (by rw [HSL.out]; exact hlt))
    rw [cellsR_node] at hy
    obtain ⟨x, hx1, hx2⟩ := Option.map_eq_some_iff.1 hy
    subst hx2
    obtain ⟨q1, q2⟩ := HS.out i x hx1
    obtain ⟨k, kid⟩ := x
    have v0 := (hb.cell (p := ⟨b, off + i * 4, none⟩) hbb).trans c0
    have hsz := strOf_size k
    obtain ⟨m, hm⟩ : ∃ m, k.length = m := ⟨_, rfl⟩
    dsimp only at *
    rw [hm] at q1 q2 hsz
    clear hm hx1 hy c0 c1
    obtain ⟨v8, w8, hr8, ho8, hg8, hv8⟩ := run_append_new (P := Try.prog) (w := wr) w.heap.size 43 3 i0 _ 1 8 Try.underlying43 hi0 hz0 hz1 hz2 rfl (by decide) hown #[.int .i64 (4 + (m : Int))] rfl (by intro u hu; simp at hu; subst hu; rfl) (by unfold maxLen; omega) (by omega) hb.size
    have HB8 := Lib.hid (hb.grown hg8 hb.size (own_ge hown))
    have HX8 := Lib.hid (hbx.grown hg8 (by intro p hp; simp at hp; subst hp; exact hnb))
    have HN8 : Hid (v8.ownBlock ≠ some w.heap.size) := Lib.hid (by
      rcases hv8 with h | h
      · rw [h]; exact hnb
      · rw [h]; intro e; have := hb.size; have := Option.some.inj e; omega)
    have HO8 : Hid (w8.ownsRow w.heap.size 3 1 v8 (i + 1) ((S.take (i + 1)).map (Value.int .i64))) := Lib.hid (by
      rw [hst.out, q1, List.map_append]; exact ho8)
    clear ho8 hg8 hv8
    clear hown hb hbx hnb q1 hst
    go_wp2_with (at_builtin; refine wpList_append_run rfl _ _ _ _ rfl rfl rfl hr8 ?_)
    go_roundw
    case rel => exact ⟨i + 1, hlt, by go_num, HO8.out, HB8.out, HX8.out, HN8.out⟩
    case measure => simp [intOf]; omega
set_option maxRecDepth 100000 in
set_option maxHeartbeats 4000000 in
theorem rsizes_leaf {n : Nat} {F : Nat → Prop} {w : World} {cs : List Value} {p : Int} {l : List (List UInt8 × Tv)} (h : RNodeOn F (n + 1) w cs (.leaf p l)) (hb : Bnd (n + 1) (.leaf p l)) :
    Calls Try.prog 65 #[.agg cs.toArray] w (SizesPost w (sizesT (.leaf p l))) := by
  obtain ⟨a, c, rfl, h1, _⟩ := h.at
  obtain ⟨g1, g2⟩ := hb
  obtain ⟨e1, e2, e3⟩ := h1.lens
  obtain ⟨kn, hkn'⟩ : ∃ x, cntT (.leaf p l) = x := ⟨_, rfl⟩
  have hkl : l.length = kn := hkn'
  rw [hkn'] at h1 e1 e2 ⊢
  have hsl : (sizesT (.leaf p l)).length = kn := by rw [sizes_len_leaf, hkl]
  have HS : Hid (∀ (i : Nat) (x : List UInt8 × Tv), l[i]? = some x → (sizesT (.leaf p l))[i]?.getD 0 = 3 + (vSz x.2 : Int) + (x.1.length : Int) ∧ x.1.length ≤ 200 ∧ x.2.data.length ≤ 1000) := Lib.hid (fun i x hx => by
    have := g2 x (List.mem_of_getElem? hx)
    simp [sizesT, hx, this])
  have HV := Lib.hid h1
  have HSL := Lib.hid hsl
  have hkn : kn ≤ 1000 := by omega
  obtain ⟨i0, hi0, hz0, hz1, hz2⟩ := info_parts info_intT
  show Calls _ _ #[.agg #[.int .i64 p, .bool true, .slice a kn c]] _ _
  have hA : Below w.heap.size w (w.alloc (.cells #[.int .i64 p, .bool true, .slice a kn c] 26)) := (Below.refl _ _).alloc (Nat.le_refl _) _
  have HBX := Lib.hid ((Boxes.nil w).alloc #[.int .i64 p, .bool true, .slice a kn c] 26 (b := w.heap.size) rfl)
  generalize sizesT (.leaf p l) = S at *
  clear h h1 g1 g2 e1 hkl hsl hkn'
  go_enter Try.func65, Try.ntmps65
  go_wp2_with fail
  go_loopw [3, 4] (fun s3 s4 wr => ∃ i : Nat, i ≤ kn ∧ s4 = .int .i64 i ∧ wr.ownsRow w.heap.size 3 1 s3 i ((S.take i).map (Value.int .i64)) ∧ Below w.heap.size w wr ∧ Boxes wr [(w.heap.size, [.int .i64 p, .bool true, .slice a kn c])] ∧ s3.ownBlock ≠ some w.heap.size) (fun _ s _ => kn - (intOf s).toNat)
  case atStart => exact ⟨0, Nat.zero_le _, rfl, World.ownsRow_nil _ _ _ _, hA, HBX.out, by simp [Value.ownBlock]⟩
  case round =>
    clear HBX hA
    obtain ⟨i, hi, rfl, hown, hb, hbx, hnb⟩ := hrel
    have f1 := hbx.cell 0 1 rfl rfl
    have f2 := hbx.cell 0 2 rfl rfl
    by_cases hlt : i < kn
    rotate_left
    · obtain rfl : i = kn := by omega
      have HE : Hid (SizesPost w S (.returned u3) wr) := Lib.hid ⟨_, rfl, by rw [HSL.out]; rw [List.take_of_length_le (by rw [HSL.out]; exact Nat.le_refl _)] at hown; exact hown, hb⟩
      clear hown hb hbx hnb
      go_wp2_with fail
      go_ret
      exact HE.out
    obtain ⟨b, off, y, pa, pn, pc, ka, kn', kc, rfl, hbb, hy, _, _, _, _, _, c0, c1, _, _⟩ := RNodeOn.cell HV.out hlt
    have hst := Lib.hid (tk_succ S i (by rw [HSL.out]; exact hlt))
    rw [cellsR_leaf] at hy
    obtain ⟨x, hx1, hx2⟩ := Option.map_eq_some_iff.1 hy
    subst hx2
    obtain ⟨q1, q2, q3⟩ := HS.out i x hx1
    obtain ⟨k, tv⟩ := x
    dsimp only at *
    have v0 := (hb.cell (p := ⟨b, off + i * 4, none⟩) hbb).trans c0
    have v1 := (hb.cell (p := ⟨b, off + i * 4 + 1, none⟩) hbb).trans c1
    have hsz := strOf_size k
    have hsz2 := strOf_size tv.data
    obtain ⟨m, hm⟩ : ∃ m, k.length = m := ⟨_, rfl⟩
    obtain ⟨dl, hdl⟩ : ∃ dl, tv.data.length = dl := ⟨_, rfl⟩
    have N := fun W => crneed_any (dl : Int) W
    have hvs : vSz tv = if dl ≤ 16 then dl else 4 := by unfold vSz; rw [hdl]
    rw [hm] at q1 q2 hsz
    rw [hdl] at hsz2 q3
    clear hm hdl hx1 hy c0 c1
    have HVS := Lib.hid hvs
    have HQ1 := Lib.hid q1
    clear hvs q1
    go_upto_region 7 with (fail)
    go_cut [5] (fun s5 wq => s5 = .int .i64 (3 + (m : Int) + (dl : Int)) ∧ ∃ j, wq = wr.drewN j)
    case first =>
      go_quiet (fail)
      go_wp2
      go_meet
      exact ⟨rfl, _, rfl⟩
    case rest =>
    obtain ⟨rfl, j, rfl⟩ := hcut
    have hvs := HVS.out
    have q1 := HQ1.out
    have hbj : Below w.heap.size w (wr.drewN j) := below_drewN hb j
    have hownj := own_held hown (below_drewN (Below.refl _ _) j)
    have hbxj := hbx.step (below_drewN (Below.refl _ _) j)
    have g1 := hbxj.cell 0 1 rfl rfl
    have g2 := hbxj.cell 0 2 rfl rfl
    have y0 := (hbj.cell (p := ⟨b, off + i * 4, none⟩) hbb)
    have y1 := (hbj.cell (p := ⟨b, off + i * 4 + 1, none⟩) hbb)
    have z0 : (wr.drewN j).cell? ⟨b, off + i * 4, none⟩ = some (.string (strOf k)) := v0
    have z1 : (wr.drewN j).cell? ⟨b, off + i * 4 + 1, none⟩ = some (.string (strOf tv.data)) := v1
    clear y0 y1 HVS HQ1 hown hb hbx
    by_cases hd : dl ≤ 16
    · rw [if_pos hd] at hvs
      rw [hvs] at q1
      rw [show needC (dl : Int) = 0 by unfold needC; rw [if_pos (.inl (by omega))]] at N
      have d4 : decide ((400 : Int) < dl) = false := by simp; omega
      have d4' : decide (400 < dl) = false := by simp; omega
      obtain ⟨v8, w8, hr8, ho8, hg8, hv8⟩ := run_append_new (P := Try.prog) (w := wr.drewN j) w.heap.size 43 3 i0 _ 1 8 Try.underlying43 hi0 hz0 hz1 hz2 rfl (by decide) hownj #[.int .i64 (3 + (m : Int) + (dl : Int))] rfl (by intro u hu; simp at hu; subst hu; rfl) (by unfold maxLen; omega) (by omega) hbj.size
      have HB8 := Lib.hid (hbj.grown hg8 hbj.size (own_ge hownj))
      have HX8 := Lib.hid (hbxj.grown hg8 (by intro p hp; simp at hp; subst hp; exact hnb))
      have HN8 : Hid (v8.ownBlock ≠ some w.heap.size) := Lib.hid (by
        rcases hv8 with h | h
        · rw [h]; exact hnb
        · rw [h]; intro e; have := hbj.size; have := Option.some.inj e; omega)
      have HO8 : Hid (w8.ownsRow w.heap.size 3 1 v8 (i + 1) ((S.take (i + 1)).map (Value.int .i64))) := Lib.hid (by
        rw [hst.out, q1, List.map_append, show (3 : Int) + (dl : Int) + (m : Int) = 3 + (m : Int) + (dl : Int) by omega]; exact ho8)
      clear ho8 hg8 hv8
      clear hownj hbj hbxj hnb q1 hst hvs
      go_wp2_with fail
      refine (N _).mono ?_
      rintro e w2 ⟨rfl, rfl⟩
      go_wp2_with (at_builtin; refine wpList_append_run rfl _ _ _ _ rfl rfl rfl hr8 ?_)
      go_roundw
      case rel => exact ⟨i + 1, hlt, by go_num, HO8.out, HB8.out, HX8.out, HN8.out⟩
      case measure => simp [intOf]; omega
    · rw [if_neg hd] at hvs
      rw [hvs] at q1
      obtain ⟨v8, w8, hr8, ho8, hg8, hv8⟩ := run_append_new (P := Try.prog) (w := wr.drewN j) w.heap.size 43 3 i0 _ 1 8 Try.underlying43 hi0 hz0 hz1 hz2 rfl (by decide) hownj #[.int .i64 (7 + (m : Int))] rfl (by intro u hu; simp at hu; subst hu; rfl) (by unfold maxLen; omega) (by omega) hbj.size
      have HB8 := Lib.hid (hbj.grown hg8 hbj.size (own_ge hownj))
      have HX8 := Lib.hid (hbxj.grown hg8 (by intro p hp; simp at hp; subst hp; exact hnb))
      have HN8 : Hid (v8.ownBlock ≠ some w.heap.size) := Lib.hid (by
        rcases hv8 with h | h
        · rw [h]; exact hnb
        · rw [h]; intro e; have := hbj.size; have := Option.some.inj e; omega)
      have HO8 : Hid (w8.ownsRow w.heap.size 3 1 v8 (i + 1) ((S.take (i + 1)).map (Value.int .i64))) := Lib.hid (by
        rw [hst.out, q1, List.map_append, show (3 : Int) + ((4 : Nat) : Int) + (m : Int) = 7 + (m : Int) by omega]; exact ho8)
      clear ho8 hg8 hv8
      clear hownj hbj hbxj hnb q1 hst
      have dd : (decide ((0 : Int) < (needC (dl : Int) : Int)) = true ∧ decide (0 < needC (dl : Int)) = true) ∨ (decide ((0 : Int) < (needC (dl : Int) : Int)) = false ∧ decide (0 < needC (dl : Int)) = false ∧ decide ((400 : Int) < dl) = true ∧ decide (400 < dl) = true) := by
        by_cases h4 : 400 < dl
        · right
          have : needC (dl : Int) = 0 := by unfold needC; rw [if_pos (.inr (by omega))]
          rw [this]; exact ⟨by simp, by simp, by simp; omega, by simp; omega⟩
        · left
          have : 0 < needC (dl : Int) := by unfold needC; rw [if_neg (by omega)]; omega
          exact ⟨by simp; omega, by simp; omega⟩
      generalize needC (dl : Int) = nq at *
      clear hvs
      rcases dd with ⟨d4, d4'⟩ | ⟨d4, d4', d5, d5'⟩
      · go_wp2_with fail
        refine (N _).mono ?_
        rintro e w2 ⟨rfl, rfl⟩
        go_wp2_with (at_builtin; refine wpList_append_run rfl _ _ _ _ rfl rfl rfl hr8 ?_)
        go_roundw
        case rel => exact ⟨i + 1, hlt, by go_num, HO8.out, HB8.out, HX8.out, HN8.out⟩
        case measure => simp [intOf]; omega
      · go_wp2_with fail
        refine (N _).mono ?_
        rintro e w2 ⟨rfl, rfl⟩
        go_wp2_with (at_builtin; refine wpList_append_run rfl _ _ _ _ rfl rfl rfl hr8 ?_)
        go_roundw
        case rel => exact ⟨i + 1, hlt, by go_num, HO8.out, HB8.out, HX8.out, HN8.out⟩
        case measure => simp [intOf]; omega
theorem rsizes_any {n : Nat} {F : Nat → Prop} {w : World} {cs : List Value} {t : Tr} (h : RNodeOn F n w cs t) (hb : Bnd n t) : Calls Try.prog 65 #[.agg cs.toArray] w (SizesPost w (sizesT t)) := by
  cases n with
  | zero => exact h.elim
  | succ n =>
    cases t with
    | leaf p l => exact rsizes_leaf h hb
    | node p l => exact rsizes_node h hb
end Go.Proofs.Ytemfnjlfcemehaa

/- The reference's place: the walk. -/
namespace Go.Proofs.Ytemfnjlfcemehaa
open Go.RowKit

set_option maxRecDepth 100000 in
set_option maxHeartbeats 1000000 in
theorem refAt_any (a : Option Addr) (len cap : Nat) (l : List Int) (w : World) (hr : Row .i64 w a len cap l) (hs : Small l) :
    Calls Try.prog 64 #[.slice a len cap] w fun e w' => e = .returned (.int .i64 (atF l)) ∧ w = w' := by
  have hbd := hs.bd
  have hll := Lib.hid hr.1
  have hl1 := hs.1
  have hlc := hr.2.1
  have hm := hr.2.2.1
  unfold maxLen at hm
  have hlen : l.length ≤ len ∧ len ≤ l.length := by rw [hr.1]; omega
  by_cases hle : sumI l ≤ 122
  · have hat : Hid (atF l = 0) := Lib.hid (by simp [atF, hle])
    go_enter Try.func64, Try.ntmps64
    go_wp2_with (go_at_call 90; refine (refSum_any _ _ _ _ _ hr hs).mono ?_; rintro e w' ⟨rfl, rfl⟩)
    go_ret
    exact ⟨ret_int hat.out.symm, rfl⟩
  · by_cases hl2 : len < 2
    · have hat : Hid (atF l = 0) := Lib.hid (by
        have e : l.length - 1 = 0 := by omega
        simp [atF, hle, e, bestTo_zero])
      go_enter Try.func64, Try.ntmps64
      go_wp2_with (go_at_call 90; refine (refSum_any _ _ _ _ _ hr hs).mono ?_; rintro e w' ⟨rfl, rfl⟩)
      go_ret
      exact ⟨ret_int hat.out.symm, rfl⟩
    · have hat : Hid (atF l = (bestTo l (len - 1)).2) := Lib.hid (by rw [← hr.1]; simp [atF, hle])
      go_enter Try.func64, Try.ntmps64
      go_wp2_with (go_at_call 90; refine (refSum_any _ _ _ _ _ hr hs).mono ?_; rintro e w' ⟨rfl, rfl⟩)
      go_loop [3, 4] (fun at' kk => ∃ k m : Nat, 2 ≤ k ∧ k ≤ len ∧ kk = .int .i64 k ∧ at' = .int .i64 m ∧ 1 ≤ m ∧ m < k ∧ bestTo l (k - 1) = (worse l m, (m : Int))) (fun _ k => len - (intOf k).toNat)
      case atStart =>
        obtain ⟨m, h1, h2, e⟩ := bestTo_pos hs 0
        obtain rfl : m = 1 := by omega
        exact ⟨2, 1, by omega, by omega, rfl, rfl, h1, by omega, e⟩
      case round =>
        obtain ⟨k, m, hk2, hk, rfl, rfl, hm1, hm2, hb⟩ := hrel
        have hst : bestTo l (k + 1 - 1) = better (worse l m, (m : Int)) ((k : Int), worse l k) := by
          obtain ⟨n, rfl⟩ : ∃ n, k = n + 1 := ⟨k - 1, by omega⟩
          have := bestTo_succ l n
          simp only [Nat.add_sub_cancel] at hb ⊢
          rw [this, hb]; simp
        have HB := Lib.hid hb
        have HS := Lib.hid hst
        clear hb hst
        by_cases hlt : k < len
        · by_cases hw : worse l k < worse l m
          · go_wp2_with fail
            refine (worse_any _ _ _ k _ _ hr hs (by omega)).mono ?_
            rintro e w' ⟨rfl, rfl⟩
            go_wp2_with fail
            refine (worse_any _ _ _ m _ _ hr hs (by omega)).mono ?_
            rintro e w' ⟨rfl, rfl⟩
            go_wp2
            go_round
            case rel => exact ⟨k + 1, k, by omega, by omega, by go_num, rfl, by omega, by omega, by rw [HS.out, better, if_pos hw]⟩
            case measure => simp [intOf]; omega
          · go_wp2_with fail
            refine (worse_any _ _ _ k _ _ hr hs (by omega)).mono ?_
            rintro e w' ⟨rfl, rfl⟩
            go_wp2_with fail
            refine (worse_any _ _ _ m _ _ hr hs (by omega)).mono ?_
            rintro e w' ⟨rfl, rfl⟩
            go_wp2
            go_round
            case rel => exact ⟨k + 1, m, by omega, by omega, by go_num, rfl, by omega, by omega, by rw [HS.out, better, if_neg (by simpa using hw)]⟩
            case measure => simp [intOf]; omega
        · obtain rfl : k = len := by omega
          go_wp2
          go_ret
          exact ⟨ret_int (by rw [hat.out, HB.out]), rfl⟩
end Go.Proofs.Ytemfnjlfcemehaa
