/- Texts that other texts of this claim lean on, one behind the other. -/
import Derived.Test.YtemfnjlfcemehaaM3
import Derived.Test.YtemfnjlfcemehaaM4
import Derived.Test.YtemfnjlfcemehaaM2
import Derived.Test.YtemfnjlfcemehaaM1
/- Rows of the document's cells: a row appended; 'with'. -/
namespace Go.Proofs.Ytemfnjlfcemehaa
open Go.RowKit

/-- A row of cells appended to one of the call's own. -/
theorem CellsOwn.row {P : Program} {E t : TypeId} (ht : P.underlying t = some (.slice E)) (hi : RowInfo P E 4 80) {F : Nat → Prop} {n B : Nat} {w : World} {v : Value} {l : List Rc} (h : CellsOwn E F n B w v l) (hB : B ≤ w.heap.size) (hl : l.length ≤ 100000) {a : Option Addr} {m c : Nat} {l2 : List Rc} (hr : TabR 4 (RcOn (Gp F B v) n w) w a m c l2) (hm : m ≤ 100000) :
    ∃ v' w', (Builtin.append_ #[t, t] t #[v, .slice a m c]).run P w = .ok v' w' ∧ CellsOwn E F n B w' v' (l ++ l2) ∧ w.grownBy w' v.ownBlock := by
  obtain ⟨L, h1, h2⟩ := h
  obtain ⟨L2, r1, r2⟩ := TabR.raw hr (fun _ _ h => h.one)
  obtain ⟨i, z, i1, i2, i3, i4, i5⟩ := hi
  have hlm : l2.length = m := by rw [← r2.1]; exact r1.1
  obtain ⟨v', w', hr, ho, hg, hv⟩ := run_append_raw (P := P) B t E i z 4 80 ht i1 i2 i3 i4 i5 (by decide) h1 r1 (by unfold maxLen; omega) (by omega) hB
  refine ⟨v', w', hr, ⟨L ++ L2, ?_, ?_⟩, hg⟩
  · rw [List.length_append, hlm]; exact ho
  · have hag : AgreeF (fun b => v.ownBlock ≠ some b) w w' := ⟨hg.size, fun b hb hlt => hg.block b hlt (fun e => hb e.symm)⟩
    have step : ∀ {cs : List Value} {y : Rc}, RcOn (Gp F B v) n w cs y → RcOn (Gp F B v') n w' cs y := fun h =>
      (h.lt.agree (hag.sub (fun b hb => hb.1.2))).mono (fun b hb => ⟨hb.1.1, fun e => by
        rcases hv with hv | hv
        · rw [hv] at e; exact hb.1.2 e
        · rw [hv] at e; have := Option.some.inj e; have := hb.2; omega⟩)
    exact (h2.mono (fun _ _ _ h => step h)).append (r2.mono (fun _ _ _ h => step h))
/-- Cells on blocks that were there ahead may be put into the row. -/
theorem RcOn.gp {E : TypeId} {F : Nat → Prop} {n B : Nat} {w : World} {v : Value} {l : List Rc} (h : CellsOwn E F n B w v l) (hF : ∀ b, F b → b < B) {cs : List Value} {y : Rc} {W : World} (hy : RcOn F n W cs y) : RcOn (Gp F B v) n W cs y :=
  hy.mono (fun b hb => ⟨.inl hb, fun e => by have := (h.block e).1; have := hF b hb; omega⟩)
/-- What answers a row of cells. -/
def CellsTo (F : Nat → Prop) (n : Nat) (w : World) (l : List Rc) (e : Ending) (w' : World) : Prop := ∃ v, e = .returned v ∧ CellsOwn 48 F n w.heap.size w' v l ∧ Below w.heap.size w w'
theorem info_Cw : RowInfo Try.prog 48 4 80 := row_info (by kernel_rfl)
theorem elem_Cw : Try.prog.underlying 24 = some (.slice (Try.prog.elem 24)) := by kernel_rfl
theorem size_Cw (w : World) : (sizeOf (Try.prog.elem 24)).run Try.prog w = .ok 4 w := by kernel_rfl
set_option maxRecDepth 100000 in
set_option maxHeartbeats 1000000 in
theorem with_any {F : Nat → Prop} {n : Nat} {w : World} {a : Option Addr} {m c : Nat} {l : List Rc} {a2 : Option Addr} {m2 c2 : Nat} {l2 : List Rc} (hF : ∀ b, F b → b < w.heap.size) (h : TabR 4 (RcOn F n w) w a m c l) (g : TabR 4 (RcOn F n w) w a2 m2 c2 l2) {k : Nat} (hk : k < m) (hm : m ≤ 2000) (hm2 : m2 ≤ 2000) :
    Calls Try.prog 75 #[.slice a m c, .int .i64 (k : Int), .slice a2 m2 c2] w (CellsTo F n w (l.take k ++ l2 ++ l.drop (k + 1))) := by
  obtain ⟨e1, e2, e3⟩ := h.lens
  obtain ⟨g1, g2, g3⟩ := g.lens
  have c0 : CellsOwn 48 F n w.heap.size w (.slice none 0 0) [] := CellsOwn.nil _ _ _ _ _
  obtain ⟨v1, w1, hr1, c1, hg1⟩ := c0.row Try.underlying24 info_Cw (Nat.le_refl _) (by simp) (TabR.mono (TabR.tk h (show k ≤ m by omega)) (fun _ _ h => RcOn.gp c0 hF h)) (by omega)
  have hb1 : Below w.heap.size w w1 := (Below.refl _ _).grown hg1 (Nat.le_refl _) (fun g hg => by cases hg)
  have r2 : TabR 4 (RcOn (Gp F w.heap.size v1) n w1) w1 a2 m2 c2 l2 := TabR.mono (TabR.below (Nat.le_refl _) hb1 g) (fun cs y hy => RcOn.gp c1 hF (RcOn.below hy hb1))
  have l1 : ([] ++ l.take k).length ≤ 100000 := by simp; omega
  obtain ⟨v2, w2, hr2, c2', hg2⟩ := c1.row Try.underlying24 info_Cw hb1.size l1 r2 (by omega)
  have hb2 : Below w.heap.size w w2 := hb1.grown hg2 hb1.size (fun g hg => (c1.block hg).1)
  obtain ⟨a3, ha3, hsl⟩ := slice_from elem_Cw size_Cw a m c (k + 1) (by omega)
  have hrow : TabR 4 (RcOn F n w) w a3 (m - (k + 1)) (c - (k + 1)) (l.drop (k + 1)) := by rw [ha3]; exact TabR.dp h (show k + 1 ≤ m by omega)
  have r3 : TabR 4 (RcOn (Gp F w.heap.size v2) n w2) w2 a3 (m - (k + 1)) (c - (k + 1)) (l.drop (k + 1)) := TabR.mono (TabR.below (Nat.le_refl _) hb2 hrow) (fun cs y hy => RcOn.gp c2' hF (RcOn.below hy hb2))
  have l3 : ([] ++ l.take k ++ l2).length ≤ 100000 := by simp; omega
  obtain ⟨v3, w3, hr3, c3, hg3⟩ := c2'.row Try.underlying24 info_Cw hb2.size l3 r3 (by omega)
  have hb3 : Below w.heap.size w w3 := hb2.grown hg3 hb2.size (fun g hg => (c2'.block hg).1)
  have HE : Hid (CellsTo F n w (l.take k ++ l2 ++ l.drop (k + 1)) (.returned v3) w3) := Lib.hid ⟨v3, rfl, by simpa using c3, hb3⟩
  have hkc : k ≤ c := by omega
  rw [show ((k + 1 : Nat) : Int) = (k : Int) + 1 by omega] at hsl
  clear c0 c1 c2' c3 r2 r3 l1 l3 hb1 hb2 hb3 hg1 hg2 hg3 ha3 hrow h g hF e1 g1
  go_enter Try.func75, Try.ntmps75
  go_upto_region 3 with (at_builtin; refine wpList_append_run rfl _ _ _ _ rfl rfl rfl hr1 ?_)
  go_upto_region 4 with (at_builtin; refine wpList_append_run rfl _ _ _ _ rfl rfl rfl hr2 ?_)
  go_wp2_with (at_builtin; refine wpList_append_run rfl _ _ _ _ rfl rfl rfl hr3 ?_)
  go_ret
  exact HE.out
end Go.Proofs.Ytemfnjlfcemehaa

/- Rows of the document's cells: the first one's key written over; a node's parts. -/
namespace Go.Proofs.Ytemfnjlfcemehaa
open Go.RowKit

/-- A row of cells of the call's own whose cells stand on some blocks alone. -/
def CellsF (E : TypeId) (F : Nat → Prop) (n B : Nat) (w : World) (v : Value) (l : List Rc) : Prop := ∃ L : List (Cl 4), w.ownsRow B E 4 v l.length (flatC L) ∧ Tells (RcOn F n w) L l
theorem CellsF.nil (E : TypeId) (F : Nat → Prop) (n B : Nat) (w : World) : CellsF E F n B w (.slice none 0 0) [] := ⟨[], own_nil w E 4 B, Tells.nil⟩
theorem CellsF.below {E : TypeId} {F : Nat → Prop} {n B : Nat} {w w' : World} {v : Value} {l : List Rc} (h : CellsF E F n B w v l) (hb : Below w.heap.size w w') : CellsF E F n B w' v l := by
  obtain ⟨L, h1, h2⟩ := h
  exact ⟨L, own_held h1 hb, h2.mono (fun _ _ _ h => h.below hb)⟩
theorem CellsF.set {E : TypeId} {F : Nat → Prop} {n B : Nat} {w : World} {v : Value} {l : List Rc} (h : CellsF E F n B w v l) {p : Addr} (u : Value) (hp : v.ownBlock ≠ some p.block) (hF : ¬ F p.block) : CellsF E F n B (w.setCell p u) v l := by
  obtain ⟨L, h1, h2⟩ := h
  exact ⟨L, own_set h1 p u hp, h2.mono (fun _ _ _ h => h.agree (AgreeF.set ⟨Nat.le_refl _, fun _ _ _ => rfl⟩ (.inl hF)))⟩
theorem CellsF.ge {E : TypeId} {F : Nat → Prop} {n B : Nat} {w : World} {v : Value} {l : List Rc} (h : CellsF E F n B w v l) {b : Nat} (hb : v.ownBlock = some b) : B ≤ b ∧ b < w.heap.size := by
  obtain ⟨L, h1, _⟩ := h
  refine ⟨own_ge h1 b hb, ?_⟩
  rcases h1.2 with ⟨rfl, _⟩ | ⟨g, cap, cur, rfl, _, hg, _⟩
  · cases hb
  · cases hb; exact (Array.getElem?_eq_some_iff.1 hg).1
theorem CellsF.own {E : TypeId} {F : Nat → Prop} {n B : Nat} {w : World} {v : Value} {l : List Rc} (h : CellsF E F n B w v l) (hF : ∀ b, F b → b < B) : CellsOwn E F n B w v l := by
  have hge := fun b hb => (h.ge (b := b) hb).1
  obtain ⟨L, h1, h2⟩ := h
  exact ⟨L, h1, h2.mono (fun _ _ _ h => h.mono (fun b hb => ⟨.inl hb, fun e => by have := hge b e; have := hF b hb; omega⟩))⟩
theorem CellsF.row {P : Program} {E t : TypeId} (ht : P.underlying t = some (.slice E)) (hi : RowInfo P E 4 80) {F : Nat → Prop} {n B : Nat} {w : World} {v : Value} {l : List Rc} (h : CellsF E F n B w v l) (hB : B ≤ w.heap.size) (hF : ∀ b, F b → b < B) (hl : l.length ≤ 100000) {a : Option Addr} {m c : Nat} {l2 : List Rc} (hr : TabR 4 (RcOn F n w) w a m c l2) (hm : m ≤ 100000) :
    ∃ v' w', (Builtin.append_ #[t, t] t #[v, .slice a m c]).run P w = .ok v' w' ∧ CellsF E F n B w' v' (l ++ l2) ∧ w.grownBy w' v.ownBlock := by
  have hge := fun b hb => (h.ge (b := b) hb).1
  obtain ⟨L, h1, h2⟩ := h
  obtain ⟨L2, r1, r2⟩ := TabR.raw hr (fun _ _ h => h.one)
  obtain ⟨i, z, i1, i2, i3, i4, i5⟩ := hi
  have hlm : l2.length = m := by rw [← r2.1]; exact r1.1
  obtain ⟨v', w', hr, ho, hg, hv⟩ := run_append_raw (P := P) B t E i z 4 80 ht i1 i2 i3 i4 i5 (by decide) h1 r1 (by unfold maxLen; omega) (by omega) hB
  refine ⟨v', w', hr, ⟨L ++ L2, ?_, ?_⟩, hg⟩
  · rw [List.length_append, hlm]; exact ho
  · have hag : AgreeF F w w' := ⟨hg.size, fun b hb hlt => hg.block b hlt (fun e => by have := hge b e.symm; have := hF b hb; omega)⟩
    exact (h2.mono (fun _ _ _ h => h.agree hag)).append (r2.mono (fun _ _ _ h => h.agree hag))
/-- The first cell's key written over. -/
theorem CellsF.key0 {E : TypeId} {F : Nat → Prop} {n B : Nat} {w : World} {g m c : Nat} {y : Rc} {r : List Rc} (h : CellsF E F n B w (.slice (some ⟨g, 0, none⟩) m c) (y :: r)) (hF : ¬ F g) (key : List UInt8) :
    CellsF E F n B (w.setCell ⟨g, 0, none⟩ (.string (strOf key))) (.slice (some ⟨g, 0, none⟩) m c) (⟨key, y.val, y.kid⟩ :: r) := by
  obtain ⟨L, h1, h2⟩ := h
  have hag : AgreeF F w (w.setCell ⟨g, 0, none⟩ (.string (strOf key))) := AgreeF.set ⟨Nat.le_refl _, fun _ _ _ => rfl⟩ (.inl hF)
  cases L with
  | nil => have := h2.1; simp at this
  | cons x L' =>
    have hx : RcOn F n w x.1 y := h2.2 0 x y rfl rfl
    obtain ⟨pa, pn, pc, ka, kn, kc, ex, k1, k2, k3, k4⟩ := hx
    have hx' : RcOn F n w [.string (strOf key), .string (strOf y.val.data), .slice pa pn pc, .slice ka kn kc] ⟨key, y.val, y.kid⟩ := ⟨pa, pn, pc, ka, kn, kc, rfl, k1, k2, k3, k4⟩
    have hlen : (y :: r).length = m := by
      rcases h1.2 with ⟨e, _⟩ | ⟨g', cap, cur, e, _⟩
      · cases e
      · cases e; rfl
    have g0 := own_put (by rw [hlen] at h1; exact h1) 0 (.string (strOf key)) (by rw [← hlen]; simp)
    refine ⟨⟨_, hx'.len, hx'.one⟩ :: L', ?_, Tells.cons (hx'.agree hag) ?_⟩
    · have e1 : flatC (x :: L') = x.1 ++ flatC L' := rfl
      have e2 : flatC ((⟨[.string (strOf key), .string (strOf y.val.data), .slice pa pn pc, .slice ka kn kc], hx'.len, hx'.one⟩ : Cl 4) :: L') = [.string (strOf key), .string (strOf y.val.data), .slice pa pn pc, .slice ka kn kc] ++ flatC L' := rfl
      rw [e2]
      rw [e1, ex] at g0
      rw [show (⟨key, y.val, y.kid⟩ :: r : List Rc).length = m by rw [← hlen]; rfl]
      exact g0
    · refine ⟨by have := h2.1; simpa using this, fun i a b ha hb => ?_⟩
      exact (h2.2 (i + 1) a b (by simpa using ha) (by simpa using hb)).agree hag
/-- The cells of a node's parts. -/
theorem cells_part (A : Nat) (kid : Tr) : cellsR (partT A kid).1 = (cellsR kid).take A ∧ (partT A kid).1.page = 0 ∧ (partT A kid).1.isLeaf = kid.isLeaf ∧ (partT A kid).2.1.page = 0 ∧ (partT A kid).2.1.isLeaf = kid.isLeaf := by
  cases kid <;> simp [partT, cellsR, Tr.page, Tr.isLeaf]
theorem cells_part_leaf (A : Nat) (p : Int) (l : List (List UInt8 × Tv)) : cellsR (partT A (.leaf p l)).2.1 = (cellsR (.leaf p l)).drop A := by simp [partT, cellsR]
theorem cells_part_node (A : Nat) (p : Int) (l : List (List UInt8 × Tr)) {y : Rc} {r : List Rc} (h : (cellsR (.node p l)).drop A = y :: r) : cellsR (partT A (.node p l)).2.1 = ⟨[], y.val, y.kid⟩ :: r := by
  simp only [partT, cellsR] at h ⊢
  rw [← List.map_drop] at h
  cases hd : l.drop A with
  | nil => rw [hd] at h; cases h
  | cons c q =>
    rw [hd] at h
    cases h
    rfl
theorem part_key (A : Nat) (kid : Tr) {y : Rc} {r : List Rc} (h : (cellsR kid).drop A = y :: r) : (partT A kid).2.2 = y.key := by
  have hk : (cellsR kid)[A]? = some y := by
    have := congrArg (fun l => l[0]?) h
    simpa [List.getElem?_drop] using this
  cases kid with
  | leaf p l =>
    rw [cellsR_leaf] at hk
    obtain ⟨c, h1, h2⟩ := Option.map_eq_some_iff.1 hk
    subst h2
    simp [partT, keyAt, h1]
  | node p l =>
    rw [cellsR_node] at hk
    obtain ⟨c, h1, h2⟩ := Option.map_eq_some_iff.1 hk
    subst h2
    simp [partT, keyAt, h1]
end Go.Proofs.Ytemfnjlfcemehaa

/- The document's cells with one kid each, made of fresh blocks. -/
namespace Go.Proofs.Ytemfnjlfcemehaa
open Go.RowKit

theorem agr {F : Nat → Prop} (w : World) : AgreeF F w w := ⟨Nat.le_refl _, fun _ _ _ => rfl⟩
theorem agal {F : Nat → Prop} {a w : World} {o : Obj} (h : AgreeF F a w) : AgreeF F a (w.alloc o) := h.trans (.of_below (Below.al (Below.refl _ _)))
theorem agdr {F : Nat → Prop} {a w : World} (h : AgreeF F a w) : AgreeF F a w.drew := h
theorem agst {r : Nat} {a w : World} {i : Nat} {u : Value} (h : AgreeF (fun b => b ≠ r) a w) : AgreeF (fun b => b ≠ r) a (w.setCell ⟨r, i, none⟩ u) := h.set (.inl fun h => h rfl)
/-- A row of one node. -/
theorem one_kid {G : Nat → Prop} {n : Nat} {W : World} {b : Nat} {x0 x1 x2 : Value} {t : Tr} (hx : BoxAt W b #[x0, x1, x2]) (h : RNodeOn G n W [x0, x1, x2] t) : TabR 3 (RNodeOn G n W) W (some ⟨b, 0, none⟩) 1 1 [t] := by
  have hr := raw_box (w := W) (b := b) (L := [(⟨[x0, x1, x2], rfl, h.one⟩ : Cl 3)]) hx (by show 1 ≤ 1000; omega)
  exact Raw.tab hr (Tells.one h)
/-- A cell of a kid. -/
theorem cell_kid {G : Nat → Prop} {n : Nat} {W : World} {b : Nat} {x0 x1 x2 : Value} {t : Tr} (key : List UInt8) (hx : BoxAt W b #[x0, x1, x2]) (h : RNodeOn G n W [x0, x1, x2] t) (hb : G b) :
    RcOn G n W [.string (strOf key), .string (strOf []), .slice none 0 0, .slice (some ⟨b, 0, none⟩) 1 1] ⟨key, ⟨[], []⟩, some t⟩ :=
  ⟨none, 0, 0, some ⟨b, 0, none⟩, 1, 1, rfl, ⟨rfl, Nat.le_refl _, by unfold maxLen; omega, fun _ => rfl, .inl rfl⟩, .inl rfl, one_kid hx h, .inr fun b' off e => by cases e; exact hb⟩
/-- A row of two cells. -/
theorem two_cells {G : Nat → Prop} {n : Nat} {W : World} {z : Nat} {u0 u1 u2 u3 v0 v1 v2 v3 : Value} {y y' : Rc} (hz : BoxAt W z #[u0, u1, u2, u3, v0, v1, v2, v3]) (h : RcOn G n W [u0, u1, u2, u3] y) (g : RcOn G n W [v0, v1, v2, v3] y') :
    TabR 4 (RcOn G n W) W (some ⟨z, 0, none⟩) 2 2 [y, y'] := by
  have hr := raw_box (w := W) (b := z) (L := [(⟨[u0, u1, u2, u3], rfl, h.one⟩ : Cl 4), ⟨[v0, v1, v2, v3], rfl, g.one⟩]) hz (by show 2 ≤ 1000; omega)
  exact Raw.tab hr (Tells.cons h (Tells.one g))
/-- A row of one cell. -/
theorem one_cell {G : Nat → Prop} {n : Nat} {W : World} {z : Nat} {u0 u1 u2 u3 : Value} {y : Rc} (hz : BoxAt W z #[u0, u1, u2, u3]) (h : RcOn G n W [u0, u1, u2, u3] y) :
    TabR 4 (RcOn G n W) W (some ⟨z, 0, none⟩) 1 1 [y] := by
  have hr := raw_box (w := W) (b := z) (L := [(⟨[u0, u1, u2, u3], rfl, h.one⟩ : Cl 4)]) hz (by show 1 ≤ 1000; omega)
  exact Raw.tab hr (Tells.one h)
/-- What is parted, as cells. -/
theorem split_cells {l : List (List UInt8 × Tr)} {k A : Nat} {kid : Tr} {xk : List UInt8} (hx : l[k]? = some (xk, kid)) (hA : atF (sizesT kid) = (A : Int)) (h0 : 0 < A) (p : Int) :
    ∃ m, splitT l k = some m ∧ cellsR (.node 0 m) = (cellsR (.node p l)).take k ++ [⟨xk, ⟨[], []⟩, some (partT A kid).1⟩, ⟨(partT A kid).2.2, ⟨[], []⟩, some (partT A kid).2.1⟩] ++ (cellsR (.node p l)).drop (k + 1) := by
  have hkey : keyAt l k = xk := by unfold keyAt; rw [hx]; rfl
  have hkd : kidAt l k = kid := by unfold kidAt; rw [hx]; rfl
  refine ⟨l.take k ++ ((xk, (partT A kid).1) :: ((partT A kid).2.2, (partT A kid).2.1) :: l.drop (k + 1)), ?_, ?_⟩
  · unfold splitT
    rw [hkd, hkey, hA, if_neg (by omega), Int.toNat_natCast]
  · simp [cellsR, List.map_take, List.map_drop]
/-- What a call of 'with' leaves: a row that is a node's, on some blocks. -/
def RowTo (G : Nat → Prop) (n : Nat) (wc : World) (t : Tr) (m : Nat) (e : Ending) (w' : World) : Prop :=
  ∃ a d, e = .returned (.slice a m d) ∧ RNodeOn G (n + 1) w' [.int .i64 0, .bool t.isLeaf, .slice a m d] t ∧ Below wc.heap.size wc w'
theorem row_to {G : Nat → Prop} {n : Nat} {wc W w' : World} {e : Ending} {t : Tr} {m : Nat} {cs : List Rc} (hp : t.page = 0) (hm : cntT t = m) (hl : cellsR t = cs) (hb : Below wc.heap.size wc W) (hG : ∀ b, W.heap.size ≤ b → G b)
    (h : CellsTo (fun x => G x ∧ x < W.heap.size) n W cs e w') : RowTo G n wc t m e w' := by
  subst hl hm
  obtain ⟨v, rfl, h1, h2⟩ := h
  obtain ⟨a, d, rfl, _, _, k1, k2⟩ := h1.sl
  rw [cellsR_len] at k1 k2 ⊢
  refine ⟨a, d, rfl, ?_, below_via hb h2⟩
  have := RNodeOn.mk (t := t) (F := G) (TabR.mono k1 (fun _ _ h => h.mono (fun b hb => by
    rcases hb.1 with hb | hb
    · exact hb.1
    · exact hG b hb))) (k2.mono hG)
  rw [hp] at this
  exact this
/-- 'with', for a node. -/
theorem with_to {G : Nat → Prop} {n : Nat} {wc W : World} {a : Option Addr} {m c : Nat} {L : List Rc} {a2 : Option Addr} {m2 c2 k : Nat} {l2 : List Rc} {t : Tr} {q : Nat} (hp : t.page = 0) (hq : cntT t = q) (hl : cellsR t = L.take k ++ l2 ++ L.drop (k + 1)) (hb : Below wc.heap.size wc W) (hG : ∀ b, wc.heap.size ≤ b → G b)
    (h : TabR 4 (RcOn G n W) W a m c L) (g : TabR 4 (RcOn G n W) W a2 m2 c2 l2) (hk : k < m) (hm : m ≤ 2000) (hm2 : m2 ≤ 2000) :
    Calls Try.prog 75 #[.slice a m c, .int .i64 (k : Int), .slice a2 m2 c2] W (RowTo G n wc t q) :=
  (with_any (fun _ h => h.2) (TabR.mono h (fun _ _ hy => RcOn.lt hy)) (TabR.mono g (fun _ _ hy => RcOn.lt hy)) hk hm hm2).mono fun _ _ h => row_to hp hq hl hb (fun b h => hG b (Nat.le_trans hb.size h)) h
/-- 'with' of two fresh cells. -/
theorem with_two {G : Nat → Prop} {n : Nat} {wc W : World} {a : Option Addr} {m c k : Nat} {L : List Rc} {t : Tr} {q : Nat} (hp : t.page = 0) (hq : cntT t = q) (hb : Below wc.heap.size wc W) (hG : ∀ b, wc.heap.size ≤ b → G b) (h : TabR 4 (RcOn G n wc) wc a m c L) (hk : k < m) (hm : m ≤ 2000) {ra rb z : Nat} {xk key : List UInt8} {TA TB : Tr} {x0 x1 x2 y0 y1 y2 : Value} {v0 : _}
    (hl : cellsR t = L.take k ++ [⟨xk, ⟨[], []⟩, some TA⟩, ⟨key, ⟨[], []⟩, some TB⟩] ++ L.drop (k + 1)) (hv : v0 = strOf []) (g1 : RNodeOn G n wc [x0, x1, x2] TA) (g2 : RNodeOn G n wc [y0, y1, y2] TB) (r1 : wc.heap.size ≤ ra) (r2 : wc.heap.size ≤ rb)
    (hA : BoxAt W ra #[x0, x1, x2]) (hB : BoxAt W rb #[y0, y1, y2]) (hz : BoxAt W z #[.string (strOf xk), .string v0, .slice none 0 0, .slice (some ⟨ra, 0, none⟩) 1 1, .string (strOf key), .string v0, .slice none 0 0, .slice (some ⟨rb, 0, none⟩) 1 1]) :
    Calls Try.prog 75 #[.slice a m c, .int .i64 (k : Int), .slice (some ⟨z, 0, none⟩) 2 2] W (RowTo G n wc t q) := by
  subst hv
  exact with_to hp hq hl hb hG (TabR.mono (TabR.below (Nat.le_refl _) hb h) (fun _ _ hy => RcOn.below hy hb)) (two_cells hz (cell_kid xk hA (g1.below hb) (hG _ r1)) (cell_kid key hB (g2.below hb) (hG _ r2))) hk hm (by omega)
/-- 'with' of one fresh cell. -/
theorem with_one {G : Nat → Prop} {n : Nat} {wc W : World} {a : Option Addr} {m c k : Nat} {L : List Rc} {t : Tr} {q : Nat} (hp : t.page = 0) (hq : cntT t = q) (hb : Below wc.heap.size wc W) (hG : ∀ b, wc.heap.size ≤ b → G b) (h : TabR 4 (RcOn G n wc) wc a m c L) (hk : k < m) (hm : m ≤ 2000) {ra z : Nat} {xk : List UInt8} {TA : Tr} {x0 x1 x2 : Value} {v0 : _}
    (hl : cellsR t = L.take k ++ [⟨xk, ⟨[], []⟩, some TA⟩] ++ L.drop (k + 1)) (hv : v0 = strOf []) (g1 : RNodeOn G n wc [x0, x1, x2] TA) (r1 : wc.heap.size ≤ ra)
    (hA : BoxAt W ra #[x0, x1, x2]) (hz : BoxAt W z #[.string (strOf xk), .string v0, .slice none 0 0, .slice (some ⟨ra, 0, none⟩) 1 1]) :
    Calls Try.prog 75 #[.slice a m c, .int .i64 (k : Int), .slice (some ⟨z, 0, none⟩) 1 1] W (RowTo G n wc t q) := by
  subst hv
  exact with_to hp hq hl hb hG (TabR.mono (TabR.below (Nat.le_refl _) hb h) (fun _ _ hy => RcOn.below hy hb)) (one_cell hz (cell_kid xk hA (g1.below hb) (hG _ r1))) hk hm (by omega)
/-- A node beside a box that is none of its blocks: the box written over. -/
theorem RNodeOn.put3 {G : Nat → Prop} {n : Nat} {W : World} {cs : List Value} {t : Tr} (h : RNodeOn G n W cs t) {r : Nat} (hr : ¬ G r) (u0 u1 u2 : Value) : RNodeOn G n (((W.setCell ⟨r, 0, none⟩ u0).setCell ⟨r, 1, none⟩ u1).setCell ⟨r, 2, none⟩ u2) cs t :=
  h.agree (((AgreeF.set (AgreeF.set (AgreeF.set ⟨Nat.le_refl _, fun _ _ _ => rfl⟩ (.inl hr)) (.inl hr)) (.inl hr))))
end Go.Proofs.Ytemfnjlfcemehaa

/- The document's cells put together; a fresh cell appended; a node's end. -/
namespace Go.Proofs.Ytemfnjlfcemehaa
open Go.RowKit

/-- The second node's cells, behind the first one's. -/
def firstRc (key : List UInt8) (lf : Bool) : List Rc → List Rc
  | [] => []
  | y :: r => if lf then y :: r else ⟨key, y.val, y.kid⟩ :: r
theorem firstRc_len (key : List UInt8) (lf : Bool) (L : List Rc) : (firstRc key lf L).length = L.length := by
  cases L with
  | nil => rfl
  | cons y r => cases lf <;> rfl
theorem firstRc_at (key : List UInt8) (lf : Bool) (L : List Rc) (i : Nat) {y : Rc} (h : L[i]? = some y) : (firstRc key lf L)[i]? = some (if i = 0 ∧ lf = false then ⟨key, y.val, y.kid⟩ else y) := by
  cases L with
  | nil => simp at h
  | cons x r =>
    cases i with
    | zero => simp at h; subst h; cases lf <;> simp [firstRc]
    | succ i => simp at h; cases lf <;> simp [firstRc, h]
theorem firstRc_succ (key : List UInt8) (lf : Bool) (L : List Rc) (i : Nat) {y : Rc} (h : L[i]? = some y) : (firstRc key lf L).take (i + 1) = (firstRc key lf L).take i ++ [if i = 0 ∧ lf = false then ⟨key, y.val, y.kid⟩ else y] := by
  rw [List.take_add_one, firstRc_at key lf L i h]; rfl
theorem join_cells {key : List UInt8} {a b : Tr} (h : a.isLeaf = b.isLeaf) : cellsR (joinT key a b) = cellsR a ++ firstRc key b.isLeaf (cellsR b) ∧ (joinT key a b).page = 0 ∧ (joinT key a b).isLeaf = a.isLeaf := by
  cases a with
  | leaf p l =>
    cases b with
    | leaf q m => exact ⟨by cases m <;> simp [joinT, cellsR, firstRc, Tr.isLeaf], rfl, rfl⟩
    | node q m => cases h
  | node p l =>
    cases b with
    | leaf q m => cases h
    | node q m => exact ⟨by cases m <;> simp [joinT, cellsR, firstRc, Tr.isLeaf, firstK], rfl, rfl⟩
theorem join_rows {l : List (List UInt8 × Tr)} {j : Nat} (hj : j + 1 < l.length) (p : Int) :
    cellsR (.node 0 (l.take (j + 1) ++ l.drop (j + 2))) = (cellsR (.node p l)).take (j + 1) ++ [] ++ (cellsR (.node p l)).drop (j + 1 + 1) ∧
    cellsR (.node 0 (joined l j)) = (cellsR (.node 0 (l.take (j + 1) ++ l.drop (j + 2)))).take j ++ [⟨keyAt l j, ⟨[], []⟩, some (joinT (keyAt l (j + 1)) (kidAt l j) (kidAt l (j + 1)))⟩] ++ (cellsR (.node 0 (l.take (j + 1) ++ l.drop (j + 2)))).drop (j + 1) ∧
    (l.take (j + 1) ++ l.drop (j + 2)).length + 1 = l.length ∧ (joined l j).length + 1 = l.length := by
  have h1 : (l.take (j + 1)).length = j + 1 := by simp; omega
  have h2 : (l.take (j + 1) ++ l.drop (j + 2)).take j = l.take j := by rw [List.take_append_of_le_length (by omega), List.take_take, Nat.min_eq_left (by omega)]
  have h3 : (l.take (j + 1) ++ l.drop (j + 2)).drop (j + 1) = l.drop (j + 2) := by rw [List.drop_append_of_le_length (by omega), List.drop_eq_nil_of_le (by omega), List.nil_append]
  refine ⟨by simp [cellsR, List.map_take, List.map_drop], ?_, by simp; omega, by unfold joined; simp; omega⟩
  simp only [cellsR]
  rw [← List.map_take, ← List.map_drop, h2, h3]
  simp [joined]
/-- A fresh cell appended. -/
theorem CellsF.append {P : Program} {E t : TypeId} (ht : P.underlying t = some (.slice E)) (hi : RowInfo P E 4 80) {F : Nat → Prop} {n B : Nat} {w : World} {v : Value} {l : List Rc} (h : CellsF E F n B w v l) (hB : B ≤ w.heap.size) (hF : ∀ b, F b → b < B) (hl : l.length ≤ 100000) {cs : List Value} {y : Rc} (hy : RcOn F n w cs y) :
    ∃ v' w', (Builtin.append_ #[t, t] t #[v, .slice (some ⟨w.heap.size, 0, none⟩) 1 1]).run P (w.alloc (.cells cs.toArray E)) = .ok v' w' ∧ CellsF E F n B w' v' (l ++ [y]) ∧ w.grownBy w' v.ownBlock := by
  have hge := fun b hb => (h.ge (b := b) hb).1
  obtain ⟨L, h1, h2⟩ := h
  obtain ⟨i, z, i1, i2, i3, i4, i5⟩ := hi
  obtain ⟨v', w', hr, ho, hg, hv⟩ := run_append_new (P := P) B t E i z 4 80 ht i1 i2 i3 i4 i5 (by decide) h1 cs.toArray (by simpa using hy.len) (by simpa using hy.one) (by unfold maxLen; omega) (by omega) hB
  refine ⟨v', w', hr, ⟨L ++ [⟨cs, hy.len, hy.one⟩], ?_, ?_⟩, hg⟩
  · have e : flatC (L ++ [⟨cs, hy.len, hy.one⟩]) = flatC L ++ cs := by rw [flatC_append]; exact congrArg (flatC L ++ ·) (List.append_nil cs)
    rw [e, List.length_append]; exact ho
  · have hag : AgreeF F w w' := ⟨hg.size, fun b hb hlt => hg.block b hlt (fun e => by have := hge b e.symm; have := hF b hb; omega)⟩
    exact (h2.mono (fun _ _ _ h => h.agree hag)).append (Tells.one (hy.agree hag))
/-- A walk's end: three cells stored into the result's box. -/
theorem rnode_end {F G : Nat → Prop} {n : Nat} {w w' : World} {T : Tr} {r : Nat} {p : Int} {lf : Bool} {a : Option Addr} {m d : Nat} (hr : w.heap.size ≤ r) (hG : ¬ G r) (hGF : ∀ b, G b → Fr F w b) (h : RNodeOn G n w' [.int .i64 p, .bool lf, .slice a m d] T) (hb : Below w.heap.size w w') :
    RNodeTo F n w T (.returned (.agg #[.int .i64 p, .bool lf, .slice a m d])) (((w'.setCell ⟨r, 0, none⟩ (.int .i64 p)).setCell ⟨r, 1, none⟩ (.bool lf)).setCell ⟨r, 2, none⟩ (.slice a m d)) :=
  ⟨[.int .i64 p, .bool lf, .slice a m d], rfl, (h.put3 hG _ _ _).mono hGF, ((hb.setCell (by simpa using hr) _).setCell (by simpa using hr) _).setCell (by simpa using hr) _⟩
/-- The same, with what the box holds then. -/
theorem rend {F G : Nat → Prop} {n : Nat} {w w' : World} {T : Tr} {r : Nat} {p : Int} {lf : Bool} {a : Option Addr} {m d : Nat} {x0 x1 x2 : Value} (hx : Boxes w' [(r, [x0, x1, x2])]) (hr : w.heap.size ≤ r) (hG : ¬ G r) (hGF : ∀ b, G b → Fr F w b) (h : RNodeOn G n w' [.int .i64 p, .bool lf, .slice a m d] T) (hb : Below w.heap.size w w') :
    (((w'.setCell ⟨r, 0, none⟩ (.int .i64 p)).setCell ⟨r, 1, none⟩ (.bool lf)).setCell ⟨r, 2, none⟩ (.slice a m d)).cell? ⟨r, 0, none⟩ = some (.int .i64 p) ∧
    (((w'.setCell ⟨r, 0, none⟩ (.int .i64 p)).setCell ⟨r, 1, none⟩ (.bool lf)).setCell ⟨r, 2, none⟩ (.slice a m d)).cell? ⟨r, 1, none⟩ = some (.bool lf) ∧
    (((w'.setCell ⟨r, 0, none⟩ (.int .i64 p)).setCell ⟨r, 1, none⟩ (.bool lf)).setCell ⟨r, 2, none⟩ (.slice a m d)).cell? ⟨r, 2, none⟩ = some (.slice a m d) ∧
    Hid (RNodeTo F n w T (.returned (.agg #[.int .i64 p, .bool lf, .slice a m d])) (((w'.setCell ⟨r, 0, none⟩ (.int .i64 p)).setCell ⟨r, 1, none⟩ (.bool lf)).setCell ⟨r, 2, none⟩ (.slice a m d))) := by
  have hxe := ((hx.put 0 (.int .i64 p) (by simp)).put 1 (.bool lf) (by simp)).put 2 (.slice a m d) (by simp)
  exact ⟨hxe.cell 0 0 rfl rfl, hxe.cell 0 1 rfl rfl, hxe.cell 0 2 rfl rfl, Lib.hid (rnode_end hr hG hGF h hb)⟩
theorem RNodeTo.split {F : Nat → Prop} {n : Nat} {w w' : World} {t : Tr} {e : Ending} (h : RNodeTo F n w t e w') : ∃ p l a m d, e = .returned (.agg #[.int .i64 p, .bool l, .slice a m d]) ∧ RNodeOn (Fr F w) n w' [.int .i64 p, .bool l, .slice a m d] t ∧ Below w.heap.size w w' := by
  obtain ⟨cs, rfl, h1, h2⟩ := h
  cases n with
  | zero => exact h1.elim
  | succ n =>
    obtain ⟨a, c, rfl, _⟩ := h1.at
    exact ⟨_, _, _, _, _, rfl, h1, h2⟩
theorem RNodeOn.row {G : Nat → Prop} {n : Nat} {w : World} {x y : Value} {a : Option Addr} {m d : Nat} {t : Tr} (h : RNodeOn G (n + 1) w [x, y, .slice a m d] t) (hm : cntT t = m) : TabR 4 (RcOn G n w) w a m d (cellsR t) := by
  obtain ⟨a', d', e, h1, _⟩ := h.at
  simp only [List.cons.injEq, Value.slice.injEq, and_true] at e
  obtain ⟨_, _, rfl, _, rfl⟩ := e
  rw [hm] at h1
  exact h1
/-- A kid in its cell. -/
theorem RNodeOn.kid {F : Nat → Prop} {n : Nat} {w : World} {a : Option Addr} {m c : Nat} {p : Int} {l : List (List UInt8 × Tr)} (h : TabR 4 (RcOn F n w) w a m c (cellsR (.node p l))) {k : Nat} (hk : k < m) :
    ∃ b off bk ok kcs pa pn pc kc, a = some ⟨b, off, none⟩ ∧ b < w.heap.size ∧ bk < w.heap.size ∧ RNodeOn F n w kcs (kidAt l k) ∧ w.cell? ⟨b, off + k * 4, none⟩ = some (.string (strOf (keyAt l k))) ∧ w.cell? ⟨b, off + k * 4 + 1, none⟩ = some (.string (strOf [])) ∧ w.cell? ⟨b, off + k * 4 + 2, none⟩ = some (.slice pa pn pc) ∧
      w.cell? ⟨b, off + k * 4 + 3, none⟩ = some (.slice (some ⟨bk, ok, none⟩) 1 kc) ∧ (∀ j v, kcs[j]? = some v → w.cell? ⟨bk, ok + j, none⟩ = some v) ∧ 1 ≤ kc ∧ kc ≤ 9223372036854775807 := by
  obtain ⟨b, off, y, pa, pn, pc, ka, kn, kc, rfl, hbb, hy, _, _, _, hkid, hfk, c0, c1, c2, c3⟩ := RNodeOn.cell h hk
  rw [cellsR_node] at hy
  obtain ⟨x, hx1, hx2⟩ := Option.map_eq_some_iff.1 hy
  subst hx2
  have s1 := hkid.lens
  obtain rfl : kn = 1 := s1.1.symm
  obtain ⟨bk, ok, kd, kcs, rfl, hbk, hyk, _, hon, hck⟩ := TabR.at hkid (show 0 < 1 by omega)
  cases hyk
  have hkey : keyAt l k = x.1 := by unfold keyAt; rw [hx1]; rfl
  have hkd : kidAt l k = x.2 := by unfold kidAt; rw [hx1]; rfl
  refine ⟨b, off, bk, ok, kcs, pa, pn, pc, kc, rfl, hbb, hbk, by rw [hkd]; exact hon, by rw [hkey]; exact c0, c1, c2, c3, fun j v hv => by simpa using hck j v hv, s1.2.1, s1.2.2⟩
end Go.Proofs.Ytemfnjlfcemehaa
