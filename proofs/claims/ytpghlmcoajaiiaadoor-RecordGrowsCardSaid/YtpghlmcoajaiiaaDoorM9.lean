/- Texts that other texts of this claim lean on, one behind the other. -/
import Derived.Test.YtpghlmcoajaiiaaDoorM8
import Derived.Test.YtpghlmcoajaiiaaDoorM3
import Derived.Deep.RegionHeld3
import Derived.Test.YtpghlmcoajaiiaaDoorM6
import Derived.Test.YtpghlmcoajaiiaaDoorM2
import Derived.Deep.DeepCutAuto
import Derived.Deep.CutBlock
import Derived.Deep.QuietTactic
import Derived.BigQuiet
import Derived.Test.YtpghlmcoajaiiaaDoorM4
import Derived.Test.YtpghlmcoajaiiaaDoorM5
import Derived.Test.YtpghlmcoajaiiaaDoorM7
import Derived.Test.YtpghlmcoajaiiaaDoorM1
import Derived.Deep.DeepAppendRoom
import Derived.Lib.SliceRun
/- The document's cells with one kid each, made of fresh blocks. -/
namespace Go.Proofs.YtpghlmcoajaiiaaDoor
open Go.RowKit

theorem agr {F : Nat → Prop} (w : World) : AgreeF F w w := ⟨Nat.le_refl _, fun _ _ _ => rfl⟩
theorem agal {F : Nat → Prop} {a w : World} {o : Obj} (h : AgreeF F a w) : AgreeF F a (w.alloc o) := h.trans (.of_below (Below.al (Below.refl _ _)))
theorem agdr {F : Nat → Prop} {a w : World} (h : AgreeF F a w) : AgreeF F a w.drew := h
theorem agst {r : Nat} {a w : World} {i : Nat} {u : Value} (h : AgreeF (fun b => b ≠ r) a w) : AgreeF (fun b => b ≠ r) a (w.setCell ⟨r, i, none⟩ u) := h.set (.inl fun h => h rfl)
/-- A row of one node. -/
theorem one_kid {G : Nat → Prop} {n : Nat} {W : World} {b : Nat} {x0 x1 x2 : Value} {t : Tr} (hx : BoxAt W b #[x0, x1, x2]) (h : RNodeOn G n W [x0, x1, x2] t) : TabR 3 (RNodeOn G n W) W (some ⟨b, 0, none⟩) 1 1 [t] := by
  have hr := raw_box (w := W) (b := b) (L := [(⟨[x0, x1, x2], rfl, h.one⟩ : Cl 3)]) hx (by show 1 ≤ 1000; omega)
  exact Raw.tab hr (Tells.one h)
/-- A cell of a kid. -/
theorem cell_kid {G : Nat → Prop} {n : Nat} {W : World} {b : Nat} {x0 x1 x2 : Value} {t : Tr} (key : List UInt8) (hx : BoxAt W b #[x0, x1, x2]) (h : RNodeOn G n W [x0, x1, x2] t) (hb : G b) :
    RcOn G n W [.string (strOf key), .string (strOf []), .slice none 0 0, .slice (some ⟨b, 0, none⟩) 1 1] ⟨key, ⟨[], []⟩, some t⟩ :=
  ⟨none, 0, 0, some ⟨b, 0, none⟩, 1, 1, rfl, ⟨rfl, Nat.le_refl _, by unfold maxLen; omega, fun _ => rfl, .inl rfl⟩, .inl rfl, one_kid hx h, .inr fun b' off e => by cases e; exact hb⟩
/-- A row of two cells. -/
theorem two_cells {G : Nat → Prop} {n : Nat} {W : World} {z : Nat} {u0 u1 u2 u3 v0 v1 v2 v3 : Value} {y y' : Rc} (hz : BoxAt W z #[u0, u1, u2, u3, v0, v1, v2, v3]) (h : RcOn G n W [u0, u1, u2, u3] y) (g : RcOn G n W [v0, v1, v2, v3] y') :
    TabR 4 (RcOn G n W) W (some ⟨z, 0, none⟩) 2 2 [y, y'] := by
  have hr := raw_box (w := W) (b := z) (L := [(⟨[u0, u1, u2, u3], rfl, h.one⟩ : Cl 4), ⟨[v0, v1, v2, v3], rfl, g.one⟩]) hz (by show 2 ≤ 1000; omega)
  exact Raw.tab hr (Tells.cons h (Tells.one g))
/-- A row of one cell. -/
theorem one_cell {G : Nat → Prop} {n : Nat} {W : World} {z : Nat} {u0 u1 u2 u3 : Value} {y : Rc} (hz : BoxAt W z #[u0, u1, u2, u3]) (h : RcOn G n W [u0, u1, u2, u3] y) :
    TabR 4 (RcOn G n W) W (some ⟨z, 0, none⟩) 1 1 [y] := by
  have hr := raw_box (w := W) (b := z) (L := [(⟨[u0, u1, u2, u3], rfl, h.one⟩ : Cl 4)]) hz (by show 1 ≤ 1000; omega)
  exact Raw.tab hr (Tells.one h)
/-- What is parted, as cells. -/
theorem split_cells {l : List (List UInt8 × Tr)} {k A : Nat} {kid : Tr} {xk : List UInt8} (hx : l[k]? = some (xk, kid)) (hA : atF (sizesT kid) = (A : Int)) (h0 : 0 < A) (p : Int) :
    ∃ m, splitT l k = some m ∧ cellsR (.node 0 m) = (cellsR (.node p l)).take k ++ [⟨xk, ⟨[], []⟩, some (partT A kid).1⟩, ⟨(partT A kid).2.2, ⟨[], []⟩, some (partT A kid).2.1⟩] ++ (cellsR (.node p l)).drop (k + 1) := by
  have hkey : keyAt l k = xk := by unfold keyAt; rw [hx]; rfl
  have hkd : kidAt l k = kid := by unfold kidAt; rw [hx]; rfl
  refine ⟨l.take k ++ ((xk, (partT A kid).1) :: ((partT A kid).2.2, (partT A kid).2.1) :: l.drop (k + 1)), ?_, ?_⟩
  · unfold splitT
    rw [hkd, hkey, hA, if_neg (by omega), Int.toNat_natCast]
  · simp [cellsR, List.map_take, List.map_drop]
/-- What a call of 'with' leaves: a row that is a node's, on some blocks. -/
def RowTo (G : Nat → Prop) (n : Nat) (wc : World) (t : Tr) (m : Nat) (e : Ending) (w' : World) : Prop :=
  ∃ a d, e = .returned (.slice a m d) ∧ RNodeOn G (n + 1) w' [.int .i64 0, .bool t.isLeaf, .slice a m d] t ∧ Below wc.heap.size wc w'
/-- A node beside a box that is none of its blocks: the box written over. -/
theorem RNodeOn.put3 {G : Nat → Prop} {n : Nat} {W : World} {cs : List Value} {t : Tr} (h : RNodeOn G n W cs t) {r : Nat} (hr : ¬ G r) (u0 u1 u2 : Value) : RNodeOn G n (((W.setCell ⟨r, 0, none⟩ u0).setCell ⟨r, 1, none⟩ u1).setCell ⟨r, 2, none⟩ u2) cs t :=
  h.agree (((AgreeF.set (AgreeF.set (AgreeF.set ⟨Nat.le_refl _, fun _ _ _ => rfl⟩ (.inl hr)) (.inl hr)) (.inl hr))))
end Go.Proofs.YtpghlmcoajaiiaaDoor

/- The document's cells put together; a fresh cell appended; a node's end. -/
namespace Go.Proofs.YtpghlmcoajaiiaaDoor
open Go.RowKit

/-- The second node's cells, behind the first one's. -/
def firstRc (key : List UInt8) (lf : Bool) : List Rc → List Rc
  | [] => []
  | y :: r => if lf then y :: r else ⟨key, y.val, y.kid⟩ :: r
theorem firstRc_len (key : List UInt8) (lf : Bool) (L : List Rc) : (firstRc key lf L).length = L.length := by
  cases L with
  | nil => rfl
  | cons y r => cases lf <;> rfl
theorem firstRc_at (key : List UInt8) (lf : Bool) (L : List Rc) (i : Nat) {y : Rc} (h : L[i]? = some y) : (firstRc key lf L)[i]? = some (if i = 0 ∧ lf = false then ⟨key, y.val, y.kid⟩ else y) := by
  cases L with
  | nil => simp at h
  | cons x r =>
    cases i with
    | zero => simp at h; subst h; cases lf <;> simp [firstRc]
    | succ i => simp at h; cases lf <;> simp [firstRc, h]
theorem firstRc_succ (key : List UInt8) (lf : Bool) (L : List Rc) (i : Nat) {y : Rc} (h : L[i]? = some y) : (firstRc key lf L).take (i + 1) = (firstRc key lf L).take i ++ [if i = 0 ∧ lf = false then ⟨key, y.val, y.kid⟩ else y] := by
  rw [List.take_add_one, firstRc_at key lf L i h]; rfl
theorem join_cells {key : List UInt8} {a b : Tr} (h : a.isLeaf = b.isLeaf) : cellsR (joinT key a b) = cellsR a ++ firstRc key b.isLeaf (cellsR b) ∧ (joinT key a b).page = 0 ∧ (joinT key a b).isLeaf = a.isLeaf := by
  cases a with
  | leaf p l =>
    cases b with
    | leaf q m => exact ⟨by cases m <;> simp [joinT, cellsR, firstRc, Tr.isLeaf], rfl, rfl⟩
    | node q m => cases h
  | node p l =>
    cases b with
    | leaf q m => cases h
    | node q m => exact ⟨by cases m <;> simp [joinT, cellsR, firstRc, Tr.isLeaf, firstK], rfl, rfl⟩
theorem join_rows {l : List (List UInt8 × Tr)} {j : Nat} (hj : j + 1 < l.length) (p : Int) :
    cellsR (.node 0 (l.take (j + 1) ++ l.drop (j + 2))) = (cellsR (.node p l)).take (j + 1) ++ [] ++ (cellsR (.node p l)).drop (j + 1 + 1) ∧
    cellsR (.node 0 (joined l j)) = (cellsR (.node 0 (l.take (j + 1) ++ l.drop (j + 2)))).take j ++ [⟨keyAt l j, ⟨[], []⟩, some (joinT (keyAt l (j + 1)) (kidAt l j) (kidAt l (j + 1)))⟩] ++ (cellsR (.node 0 (l.take (j + 1) ++ l.drop (j + 2)))).drop (j + 1) ∧
    (l.take (j + 1) ++ l.drop (j + 2)).length + 1 = l.length ∧ (joined l j).length + 1 = l.length := by
  have h1 : (l.take (j + 1)).length = j + 1 := by simp; omega
  have h2 : (l.take (j + 1) ++ l.drop (j + 2)).take j = l.take j := by rw [List.take_append_of_le_length (by omega), List.take_take, Nat.min_eq_left (by omega)]
  have h3 : (l.take (j + 1) ++ l.drop (j + 2)).drop (j + 1) = l.drop (j + 2) := by rw [List.drop_append_of_le_length (by omega), List.drop_eq_nil_of_le (by omega), List.nil_append]
  refine ⟨by simp [cellsR, List.map_take, List.map_drop], ?_, by simp; omega, by unfold joined; simp; omega⟩
  simp only [cellsR]
  rw [← List.map_take, ← List.map_drop, h2, h3]
  simp [joined]
/-- A fresh cell appended. -/
theorem CellsF.append {P : Program} {E t : TypeId} (ht : P.underlying t = some (.slice E)) (hi : RowInfo P E 4 80) {F : Nat → Prop} {n B : Nat} {w : World} {v : Value} {l : List Rc} (h : CellsF E F n B w v l) (hB : B ≤ w.heap.size) (hF : ∀ b, F b → b < B) (hl : l.length ≤ 100000) {cs : List Value} {y : Rc} (hy : RcOn F n w cs y) :
    ∃ v' w', (Builtin.append_ #[t, t] t #[v, .slice (some ⟨w.heap.size, 0, none⟩) 1 1]).run P (w.alloc (.cells cs.toArray E)) = .ok v' w' ∧ CellsF E F n B w' v' (l ++ [y]) ∧ w.grownBy w' v.ownBlock := by
  have hge := fun b hb => (h.ge (b := b) hb).1
  obtain ⟨L, h1, h2⟩ := h
  obtain ⟨i, z, i1, i2, i3, i4, i5⟩ := hi
  obtain ⟨v', w', hr, ho, hg, hv⟩ := run_append_new (P := P) B t E i z 4 80 ht i1 i2 i3 i4 i5 (by decide) h1 cs.toArray (by simpa using hy.len) (by simpa using hy.one) (by unfold maxLen; omega) (by omega) hB
  refine ⟨v', w', hr, ⟨L ++ [⟨cs, hy.len, hy.one⟩], ?_, ?_⟩, hg⟩
  · have e : flatC (L ++ [⟨cs, hy.len, hy.one⟩]) = flatC L ++ cs := by rw [flatC_append]; exact congrArg (flatC L ++ ·) (List.append_nil cs)
    rw [e, List.length_append]; exact ho
  · have hag : AgreeF F w w' := ⟨hg.size, fun b hb hlt => hg.block b hlt (fun e => by have := hge b e.symm; have := hF b hb; omega)⟩
    exact (h2.mono (fun _ _ _ h => h.agree hag)).append (Tells.one (hy.agree hag))
/-- A walk's end: three cells stored into the result's box. -/
theorem rnode_end {F G : Nat → Prop} {n : Nat} {w w' : World} {T : Tr} {r : Nat} {p : Int} {lf : Bool} {a : Option Addr} {m d : Nat} (hr : w.heap.size ≤ r) (hG : ¬ G r) (hGF : ∀ b, G b → Fr F w b) (h : RNodeOn G n w' [.int .i64 p, .bool lf, .slice a m d] T) (hb : Below w.heap.size w w') :
    RNodeTo F n w T (.returned (.agg #[.int .i64 p, .bool lf, .slice a m d])) (((w'.setCell ⟨r, 0, none⟩ (.int .i64 p)).setCell ⟨r, 1, none⟩ (.bool lf)).setCell ⟨r, 2, none⟩ (.slice a m d)) :=
  ⟨[.int .i64 p, .bool lf, .slice a m d], rfl, (h.put3 hG _ _ _).mono hGF, ((hb.setCell (by simpa using hr) _).setCell (by simpa using hr) _).setCell (by simpa using hr) _⟩
/-- The same, with what the box holds then. -/
theorem rend {F G : Nat → Prop} {n : Nat} {w w' : World} {T : Tr} {r : Nat} {p : Int} {lf : Bool} {a : Option Addr} {m d : Nat} {x0 x1 x2 : Value} (hx : Boxes w' [(r, [x0, x1, x2])]) (hr : w.heap.size ≤ r) (hG : ¬ G r) (hGF : ∀ b, G b → Fr F w b) (h : RNodeOn G n w' [.int .i64 p, .bool lf, .slice a m d] T) (hb : Below w.heap.size w w') :
    (((w'.setCell ⟨r, 0, none⟩ (.int .i64 p)).setCell ⟨r, 1, none⟩ (.bool lf)).setCell ⟨r, 2, none⟩ (.slice a m d)).cell? ⟨r, 0, none⟩ = some (.int .i64 p) ∧
    (((w'.setCell ⟨r, 0, none⟩ (.int .i64 p)).setCell ⟨r, 1, none⟩ (.bool lf)).setCell ⟨r, 2, none⟩ (.slice a m d)).cell? ⟨r, 1, none⟩ = some (.bool lf) ∧
    (((w'.setCell ⟨r, 0, none⟩ (.int .i64 p)).setCell ⟨r, 1, none⟩ (.bool lf)).setCell ⟨r, 2, none⟩ (.slice a m d)).cell? ⟨r, 2, none⟩ = some (.slice a m d) ∧
    Hid (RNodeTo F n w T (.returned (.agg #[.int .i64 p, .bool lf, .slice a m d])) (((w'.setCell ⟨r, 0, none⟩ (.int .i64 p)).setCell ⟨r, 1, none⟩ (.bool lf)).setCell ⟨r, 2, none⟩ (.slice a m d))) := by
  have hxe := ((hx.put 0 (.int .i64 p) (by simp)).put 1 (.bool lf) (by simp)).put 2 (.slice a m d) (by simp)
  exact ⟨hxe.cell 0 0 rfl rfl, hxe.cell 0 1 rfl rfl, hxe.cell 0 2 rfl rfl, Lib.hid (rnode_end hr hG hGF h hb)⟩
theorem RNodeTo.split {F : Nat → Prop} {n : Nat} {w w' : World} {t : Tr} {e : Ending} (h : RNodeTo F n w t e w') : ∃ p l a m d, e = .returned (.agg #[.int .i64 p, .bool l, .slice a m d]) ∧ RNodeOn (Fr F w) n w' [.int .i64 p, .bool l, .slice a m d] t ∧ Below w.heap.size w w' := by
  obtain ⟨cs, rfl, h1, h2⟩ := h
  cases n with
  | zero => exact h1.elim
  | succ n =>
    obtain ⟨a, c, rfl, _⟩ := h1.at
    exact ⟨_, _, _, _, _, rfl, h1, h2⟩
theorem RNodeOn.row {G : Nat → Prop} {n : Nat} {w : World} {x y : Value} {a : Option Addr} {m d : Nat} {t : Tr} (h : RNodeOn G (n + 1) w [x, y, .slice a m d] t) (hm : cntT t = m) : TabR 4 (RcOn G n w) w a m d (cellsR t) := by
  obtain ⟨a', d', e, h1, _⟩ := h.at
  simp only [List.cons.injEq, Value.slice.injEq, and_true] at e
  obtain ⟨_, _, rfl, _, rfl⟩ := e
  rw [hm] at h1
  exact h1
/-- A kid in its cell. -/
theorem RNodeOn.kid {F : Nat → Prop} {n : Nat} {w : World} {a : Option Addr} {m c : Nat} {p : Int} {l : List (List UInt8 × Tr)} (h : TabR 4 (RcOn F n w) w a m c (cellsR (.node p l))) {k : Nat} (hk : k < m) :
    ∃ b off bk ok kcs pa pn pc kc, a = some ⟨b, off, none⟩ ∧ b < w.heap.size ∧ bk < w.heap.size ∧ RNodeOn F n w kcs (kidAt l k) ∧ w.cell? ⟨b, off + k * 4, none⟩ = some (.string (strOf (keyAt l k))) ∧ w.cell? ⟨b, off + k * 4 + 1, none⟩ = some (.string (strOf [])) ∧ w.cell? ⟨b, off + k * 4 + 2, none⟩ = some (.slice pa pn pc) ∧
      w.cell? ⟨b, off + k * 4 + 3, none⟩ = some (.slice (some ⟨bk, ok, none⟩) 1 kc) ∧ (∀ j v, kcs[j]? = some v → w.cell? ⟨bk, ok + j, none⟩ = some v) ∧ 1 ≤ kc ∧ kc ≤ 9223372036854775807 := by
  obtain ⟨b, off, y, pa, pn, pc, ka, kn, kc, rfl, hbb, hy, _, _, _, hkid, hfk, c0, c1, c2, c3⟩ := RNodeOn.cell h hk
  rw [cellsR_node] at hy
  obtain ⟨x, hx1, hx2⟩ := Option.map_eq_some_iff.1 hy
  subst hx2
  have s1 := hkid.lens
  obtain rfl : kn = 1 := s1.1.symm
  obtain ⟨bk, ok, kd, kcs, rfl, hbk, hyk, _, hon, hck⟩ := TabR.at hkid (show 0 < 1 by omega)
  cases hyk
  have hkey : keyAt l k = x.1 := by unfold keyAt; rw [hx1]; rfl
  have hkd : kidAt l k = x.2 := by unfold kidAt; rw [hx1]; rfl
  refine ⟨b, off, bk, ok, kcs, pa, pn, pc, kc, rfl, hbb, hbk, by rw [hkd]; exact hon, by rw [hkey]; exact c0, c1, c2, c3, fun j v hv => by simpa using hck j v hv, s1.2.1, s1.2.2⟩
end Go.Proofs.YtpghlmcoajaiiaaDoor

/- The walks of trees: the document's Sizes and Way. -/
namespace Go.Proofs.YtpghlmcoajaiiaaDoor
open Go.RowKit

theorem IsLcAt {w : World} {a : Option Addr} {n c : Nat} {l : List (List UInt8 × Tv)} (h : TabR 4 (IsLc w) w a n c l) {k : Nat} (hk : k < n) :
    ∃ b off y, a = some ⟨b, off, none⟩ ∧ b < w.heap.size ∧ l[k]? = some y ∧ w.cell? ⟨b, off + k * 4, none⟩ = some (.string (strOf y.1)) ∧ w.cell? ⟨b, off + k * 4 + 1, none⟩ = some (.string (strOf y.2.data)) := by
  obtain ⟨b, off, y, cs, e1, e2, e3, _, ⟨pa, pn, pc, ka, kc, rfl, _⟩, e6⟩ := TabR.at h hk
  exact ⟨b, off, y, e1, e2, e3, e6 0 _ rfl, e6 1 _ rfl⟩
theorem IsNcAt {n : Nat} {w : World} {a : Option Addr} {m c : Nat} {l : List (List UInt8 × Tr)} (h : TabR 4 (IsNc n w) w a m c l) {k : Nat} (hk : k < m) :
    ∃ b off y, a = some ⟨b, off, none⟩ ∧ b < w.heap.size ∧ l[k]? = some y ∧ w.cell? ⟨b, off + k * 4, none⟩ = some (.string (strOf y.1)) := by
  obtain ⟨b, off, y, cs, e1, e2, e3, _, ⟨pa, pc, ka, kc, rfl, _⟩, e6⟩ := TabR.at h hk
  exact ⟨b, off, y, e1, e2, e3, e6 0 _ rfl⟩
theorem RIn.node {n : Nat} {w : World} {cs : List Value} {p : Int} {l : List (List UInt8 × Tr)} (h : RIn (n + 1) w cs (.node p l)) : ∃ a m c, cs = [.int .i64 p, .bool false, .slice a m c] ∧ TabR 4 (IsNc n w) w a m c l := h
theorem RIn.leaf {n : Nat} {w : World} {cs : List Value} {p : Int} {l : List (List UInt8 × Tv)} (h : RIn (n + 1) w cs (.leaf p l)) : ∃ a m c, cs = [.int .i64 p, .bool true, .slice a m c] ∧ TabR 4 (IsLc w) w a m c l := h
/-- A node's first two cells, and its row; keys of it. -/
theorem RIn.any {n : Nat} {w : World} {cs : List Value} {t : Tr} (h : RIn (n + 1) w cs t) : ∃ a c, cs = [.int .i64 t.page, .bool t.isLeaf, .slice a (cntT t) c] ∧ cntT t ≤ c ∧ c ≤ 9223372036854775807 ∧ t.keys.length = cntT t ∧
    ∀ k, k < cntT t → ∃ b off, a = some ⟨b, off, none⟩ ∧ b < w.heap.size ∧ w.cell? ⟨b, off + k * 4, none⟩ = some (.string (strOf (t.keys[k]?.getD []))) := by
  cases t with
  | leaf p l =>
    obtain ⟨a, m, c, rfl, h1⟩ := h.leaf
    obtain ⟨e1, e2, e3⟩ := h1.lens
    subst e1
    refine ⟨a, c, rfl, e2, e3, by simp [Tr.keys, keysOf, cntT], fun k hk => ?_⟩
    obtain ⟨b, off, y, f1, f2, f3, f4, _⟩ := IsLcAt h1 hk
    exact ⟨b, off, f1, f2, by rw [f4]; simp [Tr.keys, keysOf, f3]⟩
  | node p l =>
    obtain ⟨a, m, c, rfl, h1⟩ := h.node
    obtain ⟨e1, e2, e3⟩ := h1.lens
    subst e1
    refine ⟨a, c, rfl, e2, e3, by simp [Tr.keys, keysOf, cntT], fun k hk => ?_⟩
    obtain ⟨b, off, y, f1, f2, f3, f4⟩ := IsNcAt h1 hk
    exact ⟨b, off, f1, f2, by rw [f4]; simp [Tr.keys, keysOf, f3]⟩
theorem wayD_step (ks : List (List UInt8)) (key : List UInt8) (n : Nat) : wayD ks key (n + 1) = if key < ks[n + 1]?.getD [] then wayD ks key n else n + 1 := rfl

end Go.Proofs.YtpghlmcoajaiiaaDoor

/- The document's nodes, read in a world; a cell set. -/
namespace Go.Proofs.YtpghlmcoajaiiaaDoor
open Go.RowKit

theorem TabR.unmap {α β : Type} {sz : Nat} {R : List Value → β → Prop} {f : α → β} {w : World} {a : Option Addr} {n c : Nat} {l : List α} (h : TabR sz R w a n c (l.map f)) : TabR sz (fun cs y => R cs (f y)) w a n c l := by
  obtain ⟨h1, h2, h3, hn, h4⟩ := h
  refine ⟨by simpa using h1, h2, h3, hn, ?_⟩
  rcases h4 with h4 | ⟨b, off, h5, h6, h7⟩
  · exact .inl h4
  · exact .inr ⟨b, off, h5, h6, fun i y hy => h7 i (f y) (by rw [List.getElem?_map, hy]; rfl)⟩
theorem RNodeOn.toRIn {F : Nat → Prop} : ∀ {n : Nat} {w : World} {cs : List Value} {t : Tr}, RNodeOn F n w cs t → RIn n w cs t
  | 0, _, _, _, h => h.elim
  | n + 1, w, cs, .leaf p l, h => by
    obtain ⟨a, c, e, h1, _⟩ := h.at
    refine ⟨a, _, c, e, TabR.mono (TabR.unmap h1) (fun cs y hy => ?_)⟩
    obtain ⟨pa, pn, pc, ka, kn, kc, e, k1, _, k2, _⟩ := hy
    obtain rfl : kn = 0 := k2.1.symm
    exact ⟨pa, pn, pc, ka, kc, e, k1, unit_any k2⟩
  | n + 1, w, cs, .node p l, h => by
    obtain ⟨a, c, e, h1, _⟩ := h.at
    refine ⟨a, _, c, e, TabR.mono (TabR.unmap h1) (fun cs y hy => ?_)⟩
    obtain ⟨pa, pn, pc, ka, kn, kc, e, k1, _, k2, _⟩ := hy
    obtain rfl : kn = 1 := k2.1.symm
    obtain rfl : pn = 0 := k1.1.symm
    exact ⟨pa, pc, ka, kc, e, k1, TabR.mono k2 (fun _ _ h => h.toRIn)⟩
theorem set_cells {l : List (List UInt8 × Tr)} {k : Nat} (hk : k < l.length) (p : Int) (key : List UInt8) (T : Tr) :
    cellsR (.node 0 (l.set k (key, T))) = (cellsR (.node p l)).take k ++ [⟨key, ⟨[], []⟩, some T⟩] ++ (cellsR (.node p l)).drop (k + 1) := by
  obtain ⟨a, c, b, rfl, rfl⟩ := list_at hk
  rw [List.set_append_right _ _ (Nat.le_refl _), Nat.sub_self, List.set_cons_zero]
  simp [cellsR, List.drop_append]
end Go.Proofs.YtpghlmcoajaiiaaDoor

/- The document's Sizes (printed by gen_treRs.py). -/
namespace Go.Proofs.YtpghlmcoajaiiaaDoor
open Go.RowKit

end Go.Proofs.YtpghlmcoajaiiaaDoor

/- The reference's place: the walk. -/
namespace Go.Proofs.YtpghlmcoajaiiaaDoor
open Go.RowKit

end Go.Proofs.YtpghlmcoajaiiaaDoor

/- The document's 'parted': the walk (printed by gen_treRp.py). -/
namespace Go.Proofs.YtpghlmcoajaiiaaDoor
open Go.RowKit

end Go.Proofs.YtpghlmcoajaiiaaDoor

/- The document's Mend (printed by gen_treRm.py). -/
namespace Go.Proofs.YtpghlmcoajaiiaaDoor
open Go.RowKit

end Go.Proofs.YtpghlmcoajaiiaaDoor

/- The document's Top. -/
namespace Go.Proofs.YtpghlmcoajaiiaaDoor
open Go.RowKit

end Go.Proofs.YtpghlmcoajaiiaaDoor

/- The document's put, in a branch (printed by gen_trePv.py). -/
namespace Go.Proofs.YtpghlmcoajaiiaaDoor
open Go.RowKit

end Go.Proofs.YtpghlmcoajaiiaaDoor

/- The document's put, in a leaf; Put (printed by gen_trePw.py). -/
namespace Go.Proofs.YtpghlmcoajaiiaaDoor
open Go.RowKit

theorem putL_cells (key : List UInt8) (v : Tv) (p : Int) (l : List (List UInt8 × Tv)) :
    cellsR (.leaf 0 (putL key v l)) = (cellsR (.leaf p l)).take (posK key (keysOf l)) ++ [⟨key, v, none⟩] ++ (cellsR (.leaf p l)).drop (posK key (keysOf l) + (if hasK key (keysOf l) then 1 else 0)) := by
  rw [putL_pos]
  simp [cellsR, List.map_take, List.map_drop]
theorem RcOn.fresh (F : Nat → Prop) (n : Nat) (w : World) (key d : List UInt8) : RcOn F n w [.string (strOf key), .string (strOf d), .slice none 0 0, .slice none 0 0] ⟨key, ⟨d, []⟩, none⟩ :=
  ⟨none, 0, 0, none, 0, 0, rfl, ⟨rfl, Nat.le_refl _, by unfold maxLen; omega, fun _ => rfl, .inl rfl⟩, .inl rfl, TabR.nil _, .inl rfl⟩
end Go.Proofs.YtpghlmcoajaiiaaDoor

/- The document's Put, and the empty tree. -/
namespace Go.Proofs.YtpghlmcoajaiiaaDoor
open Go.RowKit

theorem RNodeOn.less {F : Nat → Prop} : ∀ {m n : Nat} {lo hi : List UInt8} {w : World} {cs : List Value} {t : Tr}, RNodeOn F n w cs t → Shape m lo hi t → RNodeOn F m w cs t
  | 0, _, _, _, _, _, _, _, h => h.elim
  | _, 0, _, _, _, _, _, h, _ => h.elim
  | m + 1, n + 1, lo, hi, w, cs, .leaf p l, h, _ => by
    obtain ⟨a, c, e, h1, f1⟩ := h.at
    refine ⟨a, c, e, TabR.agree h1 (Fa.mono f1 (fun _ h => h)) (AgreeF.refl w) (fun cs y hy h => ?_), f1⟩
    obtain ⟨pa, pn, pc, ka, kn, kc, e, k1, f1, k2, f2⟩ := h
    obtain ⟨x, _, rfl⟩ := List.mem_map.1 hy
    exact ⟨pa, pn, pc, ka, kn, kc, e, k1, f1, TabR.agree k2 (Fa.mono f2 (fun _ h => h)) (AgreeF.refl w) (fun cs y hy h => by cases hy), f2⟩
  | m + 1, n + 1, lo, hi, w, cs, .node p l, h, hs => by
    obtain ⟨a, c, e, h1, f1⟩ := h.at
    have hall := node_kids hs
    refine ⟨a, c, e, TabR.agree h1 (Fa.mono f1 (fun _ h => h)) (AgreeF.refl w) (fun cs y hy h => ?_), f1⟩
    obtain ⟨pa, pn, pc, ka, kn, kc, e, k1, f1, k2, f2⟩ := h
    obtain ⟨x, hx, rfl⟩ := List.mem_map.1 hy
    obtain ⟨_, lo', hi', g, _⟩ := hall x hx
    exact ⟨pa, pn, pc, ka, kn, kc, e, k1, f1, TabR.agree k2 (Fa.mono f2 (fun _ h => h)) (AgreeF.refl w) (fun cs y hy h => by
      have : y = x.2 := by simpa using hy
      subst this
      exact RNodeOn.less h g), f2⟩
end Go.Proofs.YtpghlmcoajaiiaaDoor

/- The document's Find (printed by gen_treRg.py). -/
namespace Go.Proofs.YtpghlmcoajaiiaaDoor
open Go.RowKit

theorem find_first {key : List UInt8} : ∀ {l : List (List UInt8 × Tv)} {i : Nat} {c : List UInt8 × Tv}, (∀ j, j < i → (keysOf l)[j]? ≠ some key) → l[i]? = some c → c.1 = key → (l.find? fun c => c.1 == key) = some c
  | [], i, c, _, h, _ => by simp at h
  | x :: r, 0, c, _, h, e => by
    simp at h
    subst h
    rw [List.find?_cons_of_pos (by simpa using e)]
  | x :: r, i + 1, c, h1, h, e => by
    have hx : x.1 ≠ key := fun e => h1 0 (by omega) (by simp [keysOf, e])
    rw [List.find?_cons_of_neg (by simpa using hx)]
    exact find_first (i := i) (fun j hj => by have := h1 (j + 1) (by omega); simpa [keysOf] using this) (by simpa using h) e
theorem find_never {key : List UInt8} {l : List (List UInt8 × Tv)} (h : ∀ j, j < l.length → (keysOf l)[j]? ≠ some key) : (l.find? fun c => c.1 == key) = none := by
  rw [List.find?_eq_none]
  intro c hc e
  obtain ⟨j, hj, rfl⟩ := List.getElem_of_mem hc
  exact h j hj (by simp [keysOf, hj]; simpa using e)
end Go.Proofs.YtpghlmcoajaiiaaDoor

/- The document's tree in its box. -/
namespace Go.Proofs.YtpghlmcoajaiiaaDoor
open Go.RowKit

/-- The document's tree in its box. -/
def RBox (B b : Nat) (wr : World) (N : Nat) (t : Tr) : Prop :=
  ∃ p l a m d, Boxes wr [(b, [.int .i64 p, .bool l, .slice a m d])] ∧ RNodeOn (fun x => B ≤ x) N wr [.int .i64 p, .bool l, .slice a m d] t
theorem RBox.agree {B b : Nat} {w w' : World} {N : Nat} {t : Tr} {F : Nat → Prop} (h : RBox B b w N t) (ha : AgreeF F w w') (hG : ∀ x, B ≤ x → F x) (hb : F b) : RBox B b w' N t := by
  obtain ⟨p, l, a, m, d, h1, h2⟩ := h
  exact ⟨p, l, a, m, d, h1.agree ha (fun p hp => by simp at hp; subst hp; exact hb), h2.agree (ha.sub hG)⟩
theorem RBox.below {B b : Nat} {w w' : World} {N : Nat} {t : Tr} (h : RBox B b w N t) (hb : Below w.heap.size w w') : RBox B b w' N t := by
  obtain ⟨p, l, a, m, d, h1, h2⟩ := h
  exact ⟨p, l, a, m, d, h1.step hb, h2.below hb⟩
/-- What 'm = jalousieref15.Put(m, ..)' leaves. -/
def RStay (B b : Nat) (w wr : World) (M : Nat) (T : Tr) (wx : World) : Prop := RBox B b wx M T ∧ AgreeF (fun x => x ≠ b) wr wx ∧ Below w.heap.size w wx
theorem RStay.mk {B b : Nat} {w wr w9 : World} {M : Nat} {T : Tr} {x0 x1 x2 : Value} {p : Int} {l : Bool} {a : Option Addr} {m d : Nat} (hx : Boxes w9 [(b, [x0, x1, x2])]) (h : RNodeOn (fun x => B ≤ x) M w9 [.int .i64 p, .bool l, .slice a m d] T) (hb : b < B) (hA : AgreeF (fun x => x ≠ b) wr w9) (hB : Below w.heap.size w w9) (hle : w.heap.size ≤ b) :
    RStay B b w wr M T (((w9.setCell ⟨b, 0, none⟩ (.int .i64 p)).setCell ⟨b, 1, none⟩ (.bool l)).setCell ⟨b, 2, none⟩ (.slice a m d)) :=
  ⟨⟨p, l, a, m, d, ((hx.put 0 (.int .i64 p) (by simp)).put 1 (.bool l) (by simp)).put 2 (.slice a m d) (by simp), h.put3 (by omega) _ _ _⟩, ((hA.st).st).st, ((hB.setCell (by simpa using hle) _).setCell (by simpa using hle) _).setCell (by simpa using hle) _⟩
/-- A node of the document's that a call answers, as deep as it is told. -/
def RGo (G : Nat → Prop) (n : Nat) (w : World) (t : Tr) (e : Ending) (w' : World) : Prop := ∃ p l a m d, e = .returned (.agg #[.int .i64 p, .bool l, .slice a m d]) ∧ RNodeOn G n w' [.int .i64 p, .bool l, .slice a m d] t ∧ Below w.heap.size w w'
theorem RNodeTo.go {F G : Nat → Prop} {n M : Nat} {W w' : World} {T : Tr} {e : Ending} {lo hi : List UInt8} (h : RNodeTo F n W T e w') (hG : ∀ b, Fr F W b → G b) (hs : Shape M lo hi T) : RGo G M W T e w' := by
  obtain ⟨p, l, a, m, d, e, h1, h2⟩ := h.split
  exact ⟨p, l, a, m, d, e, (h1.mono hG).less hs, h2⟩
/-- The empty tree of the document stands on no block. -/
theorem rempty_on {F G : Nat → Prop} {w : World} {cs : List Value} (h : RNodeOn G 1 w cs (.leaf 0 [])) : ∃ a c, cs = [.int .i64 0, .bool true, .slice a 0 c] ∧ RNodeOn F 1 w cs (.leaf 0 []) := by
  obtain ⟨a, c, rfl, h1, _⟩ := h.at
  refine ⟨a, c, rfl, RNodeOn.mk (t := .leaf 0 []) ?_ (Fa.zero _ _)⟩
  obtain ⟨g1, g2, g3, g4, g5⟩ := h1
  exact ⟨g1, g2, g3, g4, .inl rfl⟩
end Go.Proofs.YtpghlmcoajaiiaaDoor

/- Entries ahead of a put, and behind it, one by one: plain. -/
namespace Go.Proofs.YtpghlmcoajaiiaaDoor

/-- How many of the entries ahead of a put have been seen. -/
def kAt (A : List (List UInt8 × Tv)) (key : List UInt8) (j : Nat) : Nat := if j ≤ posK key (keysOf A) then j else j - 1 + (if hasK key (keysOf A) then 1 else 0)
theorem pos_has {key : List UInt8} {A : List (List UInt8 × Tv)} (h : hasK key (keysOf A) = true) : ∃ x, A[posK key (keysOf A)]? = some x ∧ x.1 = key := by
  unfold hasK at h
  have h : (keysOf A)[posK key (keysOf A)]? = some key := by simpa using h
  rw [keysOf, List.getElem?_map] at h
  exact Option.map_eq_some_iff.1 h
theorem pos_not {key : List UInt8} {A : List (List UInt8 × Tv)} (h : hasK key (keysOf A) = false) {x : List UInt8 × Tv} (hx : A[posK key (keysOf A)]? = some x) : x.1 ≠ key := by
  intro e
  unfold hasK at h
  have h2 : (keysOf A)[posK key (keysOf A)]? = some x.1 := by rw [keysOf, List.getElem?_map] at *; rw [hx]; rfl
  rw [h2, e] at h
  simp at h
theorem put_len (A : List (List UInt8 × Tv)) (key : List UInt8) (v : Tv) : (putL key v A).length + (if hasK key (keysOf A) then 1 else 0) = A.length + 1 ∧ posK key (keysOf A) + (if hasK key (keysOf A) then 1 else 0) ≤ A.length := by
  have hle : posK key (keysOf A) ≤ A.length := by have := posK_le key (keysOf A); simpa [keysOf] using this
  have h1 : posK key (keysOf A) + (if hasK key (keysOf A) then 1 else 0) ≤ A.length := by
    cases h : hasK key (keysOf A) with
    | false => simpa using hle
    | true =>
      obtain ⟨x, hx, _⟩ := pos_has h
      have := (List.getElem?_eq_some_iff.1 hx).1
      simp; omega
  refine ⟨?_, h1⟩
  rw [putL_pos]
  simp
  omega
theorem stays_step {A : List (List UInt8 × Tv)} {key : List UInt8} {v : Tv} {j : Nat} {y : List UInt8 × Tv} (hA : Srt A) (hy : (putL key v A)[j]? = some y) :
    ∃ own same : Bool, decide (y.1 = key) = own ∧ (own = false → ∃ x, A[kAt A key j]? = some x ∧ x.1 = y.1 ∧ x.2.data = y.2.data) ∧ (∀ x, A[kAt A key j]? = some x → decide (x.1 = y.1) = same) ∧ (A.length ≤ kAt A key j → same = false) ∧ kAt A key (j + 1) = (if same then kAt A key j + 1 else kAt A key j) := by
  have hs := srt_put (key := key) (v := v) hA
  obtain ⟨hl, hp⟩ := put_len A key v
  have hjl := (List.getElem?_eq_some_iff.1 hy).1
  rw [putL_pos] at hy
  obtain ⟨p, hpp⟩ : ∃ p, posK key (keysOf A) = p := ⟨_, rfl⟩
  obtain ⟨o, ho⟩ : ∃ o, hasK key (keysOf A) = o := ⟨_, rfl⟩
  have hk : ∀ j, kAt A key j = if j ≤ p then j else j - 1 + (if o then 1 else 0) := fun j => by unfold kAt; rw [hpp, ho]
  have hpl : p ≤ A.length := by omega
  have htl : (A.take p).length = p := by simp; omega
  have hput : putL key v A = A.take p ++ (key, v) :: A.drop (p + (if o then 1 else 0)) := by rw [putL_pos, hpp, ho]
  rw [hpp, ho] at hy
  by_cases hjp : j = p
  · subst hjp
    have hy' : y = (key, v) := by
      rw [List.getElem?_append_right (by omega)] at hy
      simpa [htl] using hy.symm
    subst hy'
    refine ⟨true, o, by simp, (fun h => by cases h), ?_, ?_, ?_⟩
    · intro x hx
      rw [hk, if_pos (Nat.le_refl _)] at hx
      cases o with
      | true =>
        obtain ⟨z, hz1, hz2⟩ := pos_has ho
        rw [hpp, hx] at hz1
        cases hz1
        exact decide_eq_true hz2
      | false => exact decide_eq_false (pos_not ho (by rw [hpp]; exact hx))
    · intro h
      rw [hk, if_pos (Nat.le_refl _)] at h
      cases o with
      | false => rfl
      | true => rw [hpp, ho] at hp; simp at hp; omega
    · rw [hk (j + 1), hk j, if_neg (show ¬ j + 1 ≤ j by omega), if_pos (Nat.le_refl _)]
      cases o <;> simp
  · have hmem : y ∈ putL key v A := by rw [hput]; exact List.mem_of_getElem? hy
    have hx : A[kAt A key j]? = some y := by
      rw [hk]
      by_cases h : j < p
      · rw [if_pos (by omega)]
        rw [List.getElem?_append_left (by omega), List.getElem?_take_of_lt h] at hy
        exact hy
      · rw [if_neg (by omega)]
        rw [List.getElem?_append_right (by omega), htl] at hy
        obtain ⟨q, hq⟩ : ∃ q, j - p = q + 1 := ⟨j - p - 1, by omega⟩
        rw [hq, List.getElem?_cons_succ, List.getElem?_drop] at hy
        rw [← hy]
        congr 1
        omega
    have hne : y.1 ≠ key := by
      intro e
      have hmk : (key, v) ∈ putL key v A := by rw [hput]; simp
      have := srt_key hs hmem hmk (by exact e)
      subst this
      have hnd : (keysOf (putL key v A)).Pairwise (fun a b => a < b) := hs
      have hkj : (keysOf (putL key v A))[j]? = some key := by
        rw [keysOf, List.getElem?_map, hput, hy]; rfl
      have hkp : (keysOf (putL key v A))[p]? = some key := by
        rw [keysOf, List.getElem?_map, hput, List.getElem?_append_right (by omega)]; simp [htl]
      have hjl' := (List.getElem?_eq_some_iff.1 hkj).1
      have hpl' := (List.getElem?_eq_some_iff.1 hkp).1
      rcases Nat.lt_or_ge j p with h | h
      · have := pair_get hnd h hpl'
        rw [hkj, hkp] at this
        exact klt_irrefl _ this
      · have := pair_get hnd (show p < j by omega) hjl'
        rw [hkj, hkp] at this
        exact klt_irrefl _ this
    refine ⟨false, true, decide_eq_false hne, fun _ => ⟨y, hx, rfl, rfl⟩, ?_, ?_, ?_⟩
    · intro x hx'
      rw [hx] at hx'
      cases hx'
      exact decide_eq_true rfl
    · intro h
      have := (List.getElem?_eq_some_iff.1 hx).1
      omega
    · rw [hk (j + 1), hk j]
      simp only [if_true]
      by_cases h : j < p
      · rw [if_pos (show j + 1 ≤ p by omega), if_pos (show j ≤ p by omega)]
      · rw [if_neg (show ¬ j + 1 ≤ p by omega), if_neg (show ¬ j ≤ p by omega)]; omega
theorem stays_zero (A : List (List UInt8 × Tv)) (key : List UInt8) : kAt A key 0 = 0 := by unfold kAt; rw [if_pos (Nat.zero_le _)]
theorem stays_end (A : List (List UInt8 × Tv)) (key : List UInt8) (v : Tv) : kAt A key (putL key v A).length = A.length := by
  obtain ⟨hl, hp⟩ := put_len A key v
  unfold kAt
  cases h : hasK key (keysOf A) <;> rw [h] at hl hp <;> simp at hl hp ⊢
  · rw [if_neg (by omega)]; omega
  · rw [if_neg (by omega)]; omega
theorem stays_rise {A : List (List UInt8 × Tv)} (h : Srt A) {j : Nat} {x y : List UInt8 × Tv} (hx : A[j]? = some x) (hy : A[j + 1]? = some y) : x.1 < y.1 := by
  have hl := (List.getElem?_eq_some_iff.1 hy).1
  have := pair_get (l := keysOf A) h (i := j) (j := j + 1) (by omega) (by simpa [keysOf] using hl)
  simpa [keysOf, hx, hy] using this
end Go.Proofs.YtpghlmcoajaiiaaDoor

/- Keys, told the same or not, as runs. -/
namespace Go.Proofs.YtpghlmcoajaiiaaDoor
open Go.RowKit

theorem run_eqlT {a b : List UInt8} {o : Bool} (h : decide (a = b) = o) (w : World) : (binOp .eql 9 (.string (strOf a)) (.string (strOf b))).run Tryd.prog w = .ok (.bool o) w := by
  subst h
  have e : (a == b) = decide (a = b) := by by_cases h : a = b <;> simp [h]
  simp [binOp, Op.stringOp, strOf_toList, e]
theorem run_neqT {a b : List UInt8} {o : Bool} (h : decide (a = b) = o) (w : World) : (binOp .neq 9 (.string (strOf a)) (.string (strOf b))).run Tryd.prog w = .ok (.bool (!o)) w := by
  subst h
  have e : (a == b) = decide (a = b) := by by_cases h : a = b <;> simp [h]
  simp [binOp, Op.stringOp, strOf_toList, e]
/-- What a walk asks of two keys told the same or not. -/
theorem eq_walk {a b : List UInt8} {o : Bool} (h : decide (a = b) = o) : ((strOf a).toList == (strOf b).toList) = o := by
  subst h
  rw [strOf_toList, strOf_toList]
  by_cases h : a = b <;> simp [h]
theorem ne_walk {a b : List UInt8} {o : Bool} (h : decide (a = b) = o) : ((strOf a).toList != (strOf b).toList) = !o := by
  unfold bne; rw [eq_walk h]
end Go.Proofs.YtpghlmcoajaiiaaDoor

/- slices.Delete of one element, slices.Index of a text (printed by gen_treDl.py). -/
namespace Go.Proofs.YtpghlmcoajaiiaaDoor
open Go.RowKit

theorem slice_lhm {P : Program} {T : TypeId} (hT : P.underlying T = some (.slice (P.elem T))) {z : Nat} (hz : ∀ w, (sizeOf (P.elem T)).run P w = .ok z w) (a : Option Addr) (len cap l r m : Nat) (h1 : l ≤ r) (h3 : r ≤ m) (h4 : m ≤ cap) :
    ∃ a2, a2 = (if m = l then a else a.map (·.add (l * z))) ∧ ∀ (k k2 k3 : IntKind) w, (Instr.slice T (.slice a len cap) (some (.int k l)) (some (.int k2 r)) (some (.int k3 m))).run P w = .ok (.slice a2 (r - l) (m - l)) w := by
  refine ⟨_, rfl, fun k k2 k3 w => ?_⟩
  rw [run_slice_lhm w T a len cap hT k k2 k3 l r m (by omega) (by omega) (by omega) (by omega), hz]
  rfl
theorem slice_lh {P : Program} {T : TypeId} (hT : P.underlying T = some (.slice (P.elem T))) {z : Nat} (hz : ∀ w, (sizeOf (P.elem T)).run P w = .ok z w) (a : Option Addr) (len cap l r : Nat) (h1 : l ≤ r) (h4 : r ≤ cap) :
    ∃ a2, a2 = (if cap = l then a else a.map (·.add (l * z))) ∧ ∀ (k k2 : IntKind) w, (Instr.slice T (.slice a len cap) (some (.int k l)) (some (.int k2 r)) none).run P w = .ok (.slice a2 (r - l) (cap - l)) w := by
  refine ⟨_, rfl, fun k k2 w => ?_⟩
  rw [run_slice_lh w T a len cap hT k k2 l r (by omega) (by omega) (by omega), hz]
  rfl
section
variable {w : World} {B : Nat} {e : TypeId} {sz g n c : Nat} {xs : List Value}
theorem own_front (h : w.ownsRow B e sz (.slice (some ⟨g, 0, none⟩) n c) n xs) {k : Nat} (hk : k ≤ n) : w.ownsRow B e sz (.slice (some ⟨g, 0, none⟩) k c) k (xs.take (k * sz)) := by
  have hl := h.1
  have hkn : k * sz ≤ n * sz := Nat.mul_le_mul_right _ hk
  refine ⟨by rw [List.length_take]; omega, ?_⟩
  rcases h.2 with ⟨h0, _⟩ | ⟨g', cap, cur, hv, hb, hg, hn, hm, hc, ht⟩
  · cases h0
  · cases hv
    refine .inr ⟨g, c, cur, rfl, hb, hg, by omega, hm, hc, ?_⟩
    rw [← ht, List.take_take, Nat.min_eq_left hkn]
theorem own_beyond (h : w.ownsRow B e sz (.slice (some ⟨g, 0, none⟩) n c) n xs) {j : Nat} (hj : n * sz ≤ j) (u : Value) : (w.setCell ⟨g, j, none⟩ u).ownsRow B e sz (.slice (some ⟨g, 0, none⟩) n c) n xs := by
  refine ⟨h.1, ?_⟩
  rcases h.2 with ⟨h0, _⟩ | ⟨g', cap, cur, hv, hb, hg, hn, hm, hc, ht⟩
  · cases h0
  · cases hv
    refine .inr ⟨g, c, cur.setIfInBounds j u, rfl, hb, heap_setCell_at j u hg, hn, hm, by simpa using hc, ?_⟩
    rw [Array.toList_setIfInBounds, List.take_set_of_le hj, ht]
theorem own_room (h : w.ownsRow B e sz (.slice (some ⟨g, 0, none⟩) n c) n xs) {j : Nat} (hj : j < c * sz) : (w.cell? ⟨g, j, none⟩).isSome = true := by
  rcases h.2 with ⟨h0, _⟩ | ⟨g', cap, cur, hv, hb, hg, hn, hm, hc, ht⟩
  · cases h0
  · cases hv
    simp only [World.cell?, hg]
    rw [Array.getElem?_eq_getElem (by omega)]; rfl
end
theorem flatC_len {sz : Nat} (L : List (Cl sz)) : (flatC L).length = L.length * sz := flat_len (fun y : Cl sz => y.1) sz (fun y => y.2.1) L
theorem take_flat {sz : Nat} (L : List (Cl sz)) (k : Nat) : (flatC L).take (k * sz) = flatC (L.take k) := by
  by_cases hk : k ≤ L.length
  · have h : flatC L = flatC (L.take k) ++ flatC (L.drop k) := by rw [← flatC_append, List.take_append_drop]
    have hl : (flatC (L.take k)).length = k * sz := by rw [flatC_len, List.length_take, Nat.min_eq_left hk]
    rw [h, ← hl, List.take_left]
  · rw [List.take_of_length_le (by rw [flatC_len]; exact Nat.mul_le_mul_right _ (by omega)), List.take_of_length_le (by omega)]
/-- The cells of a row's end. -/
theorem own_end {w : World} {B : Nat} {e : TypeId} {sz g n c : Nat} {L : List (Cl sz)} (h : w.ownsRow B e sz (.slice (some ⟨g, 0, none⟩) n c) n (flatC L)) (hn : L.length = n) (k : Nat) : ∀ j u, (flatC (L.drop k))[j]? = some u → w.cell? ((⟨g, k * sz, none⟩ : Addr).add j) = some u := by
  intro j u hj
  have hkl : k ≤ L.length := by
    by_cases hk : k ≤ L.length
    · exact hk
    · rw [List.drop_of_length_le (by omega)] at hj; simp [flatC] at hj
  have h1 : flatC L = flatC (L.take k) ++ flatC (L.drop k) := by rw [← flatC_append, List.take_append_drop]
  have hl : (flatC (L.take k)).length = k * sz := by rw [flatC_len, List.length_take, Nat.min_eq_left hkl]
  have h2 : (flatC L)[k * sz + j]? = some u := by
    rw [h1, List.getElem?_append_right (by omega), hl, Nat.add_sub_cancel_left]; exact hj
  have hlt := (List.getElem?_eq_some_iff.1 h2).1
  rw [flatC_len, hn] at hlt
  rw [add_none]
  have := h.cellAt (k * sz + j) hlt
  rw [this]; exact h2


end Go.Proofs.YtpghlmcoajaiiaaDoor

/- A key struck out: what the walk asks. -/
namespace Go.Proofs.YtpghlmcoajaiiaaDoor
open Go.RowKit

/-- What striking a key out asks of a tree. -/
def DelOk : Nat → Tr → List UInt8 → Prop
  | 0, _, _ => False
  | _ + 1, .leaf _ l, key => l.length ≤ 900 ∧ (keysOf l).Pairwise (fun a b => a < b) ∧ hasK key (keysOf l) = true
  | n + 1, .node _ l, key => 0 < l.length ∧ l.length ≤ 1000 ∧ DelOk n (kidAt l (wayF (keysOf l) key)) key ∧ ∃ m, n = m + 1 ∧ MendOk m (l.set (wayF (keysOf l) key) (keyAt l (wayF (keysOf l) key), delT n (kidAt l (wayF (keysOf l) key)) key))
theorem find_has {l : List (List UInt8 × Tv)} {key : List UInt8} (hs : (keysOf l).Pairwise (fun a b => a < b)) (h : (l.find? fun c => c.1 == key).isSome = true) : hasK key (keysOf l) = true := by
  have := look_pos (key := key) hs
  unfold lookT at this
  cases hf : l.find? (fun c => c.1 == key) with
  | none => rw [hf] at h; cases h
  | some c =>
    rw [hf] at this
    cases hk : hasK key (keysOf l) with
    | true => rfl
    | false => rw [hk] at this; cases this
theorem delOk_of : ∀ {n : Nat} {lo hi key : List UInt8} {t : Tr}, Shape n lo hi t → sumT t ≤ 122 → (∀ p l, t = .node p l → 2 ≤ l.length) → ¬ key < lo → ltH hi key → findT n t key ≠ none → DelOk n t key
  | 0, _, _, _, _, h, _, _, _, _, _ => h.elim
  | n + 1, lo, hi, key, .leaf p l, h, hs, _, hlo, hhi, hf => by
    have hc : l.length ≤ 50 := shape_cnt h (by omega)
    obtain ⟨rfl, hl⟩ := h
    refine ⟨by omega, hl.1, find_has hl.1 ?_⟩
    cases hx : l.find? (fun c => c.1 == key) with
    | some c => rfl
    | none => exact absurd (show ((l.find? fun c => c.1 == key).map (·.2.data)) = none by rw [hx]; rfl) hf
  | n + 1, lo, hi, key, .node p l, h, hs, h2, hlo, hhi, hf => by
    have hc : l.length ≤ 50 := shape_cnt h (by omega)
    have hall := node_kids h
    obtain ⟨h1, h0⟩ := shape_kids h
    have hl2 := h2 p l rfl
    obtain ⟨a, c, b, lo', hi', e, hal, hcx, hp, g1, g2⟩ := way_focus h1 hlo hhi
    have hkid : kidAt l (wayF (keysOf l) key) = c.2 := by
      rw [← hal]
      conv => lhs; rw [e]
      exact kidAt_at a b c
    have hf' : findT n c.2 key ≠ none := by
      rw [← hkid]; exact hf
    have i0 := delOk_of hp.1 hp.2.2 (fun q m e => good_len (p := q) (by rw [← e]; exact hp)) g1 g2 hf'
    obtain ⟨i1, i2, _⟩ := del_ok hp.1 hp.2.2 (fun q m e => good_len (p := q) (by rw [← e]; exact hp)) g1 g2
    cases n with
    | zero => exact hp.1.elim
    | succ m =>
      refine ⟨by omega, by omega, by rw [hkid]; exact i0, m, rfl, ?_⟩
      rw [hkid]
      exact mendOk_of (by simp; omega) (set_kids hall (key_len hall _) i1 (by omega))
theorem Whole.del {n : Nat} {t : Tr} {key : List UInt8} (h : Whole n t) (hf : findT n t key ≠ none) : DelOk n t key ∧ TopOk n (delT n t key) := by
  obtain ⟨i1, i2, _⟩ := del_ok h.1.1 h.1.2.1 h.1.2.2 (knil key) (ltH_nil _)
  exact ⟨delOk_of h.1.1 h.1.2.1 h.1.2.2 (knil key) (ltH_nil _) hf, topOk_of i1 (by omega)⟩
/-- The list without the one at a place. -/
theorem delL_pos {key : List UInt8} {l : List (List UInt8 × Tv)} (hs : (keysOf l).Pairwise (fun a b => a < b)) (h : hasK key (keysOf l) = true) : delL key l = l.take (posK key (keysOf l)) ++ l.drop (posK key (keysOf l) + 1) := by
  obtain ⟨x, hx, hk⟩ := pos_has h
  have hl := (List.getElem?_eq_some_iff.1 hx).1
  obtain ⟨p, hp⟩ : ∃ p, posK key (keysOf l) = p := ⟨_, rfl⟩
  rw [hp] at hx hl ⊢
  have he : l = l.take p ++ x :: l.drop (p + 1) := by
    rw [← (List.getElem?_eq_some_iff.1 hx).2]; simp
  have h1 : ∀ c ∈ l.take p, c.1 ≠ key := by
    intro c hc e
    obtain ⟨i, hi⟩ := List.mem_iff_getElem?.1 hc
    have hip : i < p := by have := (List.getElem?_eq_some_iff.1 hi).1; simp at this; omega
    rw [List.getElem?_take_of_lt hip] at hi
    have := pair_get hs hip (by simpa [keysOf] using hl)
    simp [keysOf, hi, hx, e, hk] at this
    exact klt_irrefl _ this
  have h2 : ∀ c ∈ l.drop (p + 1), c.1 ≠ key := by
    intro c hc e
    obtain ⟨i, hi⟩ := List.mem_iff_getElem?.1 hc
    rw [List.getElem?_drop] at hi
    have hil := (List.getElem?_eq_some_iff.1 hi).1
    have := pair_get hs (show p < p + 1 + i by omega) (by simpa [keysOf] using hil)
    simp [keysOf, hi, hx, e, hk] at this
    exact klt_irrefl _ this
  have hx1 : delL key [x] = [] := by unfold delL; simp [hk]
  conv => lhs; rw [he]
  rw [delL_append, show x :: l.drop (p + 1) = [x] ++ l.drop (p + 1) from rfl, delL_append, hx1, delL_none h1, delL_none h2]
  rfl
theorem set_swap {α : Type} {l : List α} {k : Nat} (h : k < l.length) (y : α) : l.set k y = swapL l k 1 [y] := by
  unfold swapL
  rw [List.set_eq_take_append_cons_drop, if_pos h]; rfl
/-- One record of five written over. -/
theorem own_set5 {w : World} {B g n c : Nat} {e : TypeId} {C : List (Cl 5)} (h : w.ownsRow B e 5 (.slice (some ⟨g, 0, none⟩) n c) n (flatC C)) (hn : C.length = n) {k : Nat} (hk : k < n) (y : Cl 5) {y0 y1 y2 y3 y4 : Value} (hy : y.1 = [y0, y1, y2, y3, y4]) :
    (((((w.setCell ⟨g, k * 5, none⟩ y0).setCell ⟨g, k * 5 + 1, none⟩ y1).setCell ⟨g, k * 5 + 2, none⟩ y2).setCell ⟨g, k * 5 + 3, none⟩ y3).setCell ⟨g, k * 5 + 4, none⟩ y4).ownsRow B e 5 (.slice (some ⟨g, 0, none⟩) n c) n (flatC (C.set k y)) := by
  obtain ⟨x, hx⟩ : ∃ x, C[k]? = some x := ⟨_, List.getElem?_eq_getElem (by omega)⟩
  obtain ⟨p, s, hp, h1, h2⟩ := flat_parts (fun y : Cl 5 => y.1) 5 (fun y => y.2.1) hx
  have hk3 : k * 5 + 4 < n * 5 := by omega
  obtain ⟨x0, x1, x2, x3, x4, hxe⟩ : ∃ x0 x1 x2 x3 x4, x.1 = [x0, x1, x2, x3, x4] := by
    have := x.2.1
    match hm : x.1, this with
    | [x0, x1, x2, x3, x4], _ => exact ⟨x0, x1, x2, x3, x4, rfl⟩
  have g0 := own_put h (k * 5) y0 (by omega)
  have g1 := own_put g0 (k * 5 + 1) y1 (by omega)
  have g2 := own_put g1 (k * 5 + 2) y2 (by omega)
  have g3 := own_put g2 (k * 5 + 3) y3 (by omega)
  have g4 := own_put g3 (k * 5 + 4) y4 (by omega)
  unfold flatC at g4 ⊢
  rw [h2 y, hy]
  rw [h1, hxe, set_five hp] at g4
  exact g4
end Go.Proofs.YtpghlmcoajaiiaaDoor

/- A cursor in memory: its box, its row of steps. -/
namespace Go.Proofs.YtpghlmcoajaiiaaDoor
open Go.RowKit

/-- A step's words. -/
def StepOn (F : Nat → Prop) (N : Nat) (w : World) (cs : List Value) (s : Tr × Nat) : Prop := ∃ x, cs = x ++ [.int .i64 (s.2 : Int)] ∧ NodeOn F N w x s.1
theorem StepOn.agree {F : Nat → Prop} {N : Nat} {w w' : World} {cs : List Value} {s : Tr × Nat} (h : StepOn F N w cs s) (ha : AgreeF F w w') : StepOn F N w' cs s := by
  obtain ⟨x, e, h⟩ := h
  exact ⟨x, e, h.agree ha⟩
theorem StepOn.words {F : Nat → Prop} {N : Nat} {w : World} {cs : List Value} {s : Tr × Nat} (h : StepOn F N w cs s) :
    ∃ a1 c1 a2 n2 c2 a3 n3 c3, cs = [.int .i64 s.1.page, .bool s.1.isLeaf, .slice a1 (cntT s.1) c1, .slice a2 n2 c2, .slice a3 n3 c3, .int .i64 (s.2 : Int)] ∧ NodeOn F N w [.int .i64 s.1.page, .bool s.1.isLeaf, .slice a1 (cntT s.1) c1, .slice a2 n2 c2, .slice a3 n3 c3] s.1 := by
  obtain ⟨x, rfl, h⟩ := h
  obtain ⟨ka, kc, va, vn, vc, ca, cn, cc, _, _, rfl, _⟩ := NodeOn.open_pos h
  exact ⟨ka, kc, va, vn, vc, ca, cn, cc, rfl, h⟩
theorem StepOn.len {F : Nat → Prop} {N : Nat} {w : World} {cs : List Value} {s : Tr × Nat} (h : StepOn F N w cs s) : cs.length = 6 := by
  obtain ⟨_, _, _, _, _, _, _, _, rfl, _⟩ := h.words
  rfl
theorem StepOn.one {F : Nat → Prop} {N : Nat} {w : World} {cs : List Value} {s : Tr × Nat} (h : StepOn F N w cs s) : ∀ u ∈ cs, u.oneCell' = true := by
  obtain ⟨_, _, _, _, _, _, _, _, rfl, _⟩ := h.words
  intro u hu
  simp at hu
  rcases hu with rfl | rfl | rfl | rfl | rfl | rfl <;> rfl
/-- A cursor: its box, the row of its steps, the top last. -/
def CurAt (E : TypeId) (F : Nat → Prop) (N B b : Nat) (w : World) (v : Value) (r : List (Tr × Nat)) : Prop :=
  Boxes w [(b, [v])] ∧ b < B ∧ (∀ x, F x → x < b) ∧ ∃ L : List (Cl 6), w.ownsRow B E 6 v r.length (flatC L) ∧ Tells (StepOn F N w) L r.reverse
theorem own_take {w : World} {base : Nat} {e : TypeId} {size : Nat} {g n cap : Nat} {xs : List Value} (h : w.ownsRow base e size (.slice (some ⟨g, 0, none⟩) n cap) n xs) {m : Nat} (hm : m ≤ n) :
    w.ownsRow base e size (.slice (some ⟨g, 0, none⟩) m cap) m (xs.take (m * size)) := by
  obtain ⟨h1, h2⟩ := h
  have hms : m * size ≤ n * size := Nat.mul_le_mul_right _ hm
  refine ⟨by rw [List.length_take, h1, Nat.min_eq_left hms], .inr ?_⟩
  rcases h2 with ⟨hv, _⟩ | ⟨g', cap', cur, hv, hb, hg, hn, hx, hc, ht⟩
  · cases hv
  · cases hv
    exact ⟨g, cap, cur, rfl, hb, hg, by omega, hx, hc, by rw [← ht, List.take_take, Nat.min_eq_left hms]⟩
theorem flat_take {sz : Nat} (L : List (Cl sz)) (m : Nat) : (flatC L).take (m * sz) = flatC (L.take m) := by
  induction L generalizing m with
  | nil => simp [flatC]
  | cons x r ih =>
    cases m with
    | zero => simp [flatC]
    | succ m =>
      have e : flatC (x :: r) = x.1 ++ flatC r := rfl
      have hx : x.1.length = sz := x.2.1
      rw [List.take_succ_cons, e, show flatC (x :: r.take m) = x.1 ++ flatC (r.take m) from rfl, ← ih, Nat.succ_mul, Nat.add_comm, List.take_append, List.take_of_length_le (by omega), hx, Nat.add_sub_cancel_left]
/-- The row as a slice; its block. -/
theorem CurAt.sl {E : TypeId} {F : Nat → Prop} {N B b : Nat} {w : World} {v : Value} {r : List (Tr × Nat)} (h : CurAt E F N B b w v r) :
    ∃ a c, v = .slice a r.length c ∧ r.length ≤ c ∧ c ≤ 9223372036854775807 ∧ (0 < r.length → ∃ g, a = some ⟨g, 0, none⟩ ∧ B ≤ g ∧ g < w.heap.size ∧ ∀ o, w.frozen? ⟨g, o, none⟩ = false) := by
  obtain ⟨_, _, _, L, h1, _⟩ := h
  rcases h1.2 with ⟨rfl, h0⟩ | ⟨g, cap, cur, rfl, hg, hh, hn, hm, hr⟩
  · rw [h0]; exact ⟨none, 0, rfl, by omega, by omega, fun h => by omega⟩
  · exact ⟨_, cap, rfl, hn, by unfold maxLen at hm; omega, fun _ => ⟨g, rfl, hg, (Array.getElem?_eq_some_iff.1 hh).1, fun o => by simp [World.frozen?, hh]⟩⟩
/-- The top step's words in memory. -/
theorem CurAt.top {E : TypeId} {F : Nat → Prop} {N B b : Nat} {w : World} {g n c : Nat} {t : Tr} {k : Nat} {r : List (Tr × Nat)} (h : CurAt E F N B b w (.slice (some ⟨g, 0, none⟩) n c) ((t, k) :: r)) :
    ∃ a1 c1 a2 n2 c2 a3 n3 c3, n = r.length + 1 ∧ NodeOn F N w [.int .i64 t.page, .bool t.isLeaf, .slice a1 (cntT t) c1, .slice a2 n2 c2, .slice a3 n3 c3] t ∧
      ∀ j u, [.int .i64 t.page, .bool t.isLeaf, .slice a1 (cntT t) c1, .slice a2 n2 c2, .slice a3 n3 c3, .int .i64 (k : Int)][j]? = some u → w.cell? ⟨g, r.length * 6 + j, none⟩ = some u := by
  obtain ⟨_, _, _, L, h1, h2⟩ := h
  have hn : n = r.length + 1 := by
    rcases h1.2 with ⟨e, _⟩ | ⟨g', cap, cur, e, _⟩
    · cases e
    · cases e; rfl
  have hlen : L.length = n := by rw [h2.1, hn]; simp
  obtain ⟨x, hx⟩ : ∃ x, L[r.length]? = some x := ⟨_, List.getElem?_eq_getElem (by omega)⟩
  have hs := h2.2 r.length x (t, k) hx (by simp)
  obtain ⟨a1, c1, a2, n2, c2, a3, n3, c3, e, hn2⟩ := hs.words
  refine ⟨a1, c1, a2, n2, c2, a3, n3, c3, hn, hn2, fun j u hu => ?_⟩
  subst hn
  obtain ⟨a', c', e', hr⟩ := Raw.of_own h1 hlen
  cases e'
  obtain ⟨b', off', y, cs, e1, _, e3, _, e5, e6⟩ := TabR.at hr (show r.length < r.length + 1 by omega)
  cases e1
  rw [hx] at e3
  cases e3
  have e5 : cs = x.1 := e5
  subst e5
  have := e6 j u (by rw [e]; exact hu)
  rw [Nat.zero_add] at this
  exact this
theorem CurAt.below {E : TypeId} {F : Nat → Prop} {N B b : Nat} {w w' : World} {v : Value} {r : List (Tr × Nat)} (h : CurAt E F N B b w v r) (hb : Below w.heap.size w w') : CurAt E F N B b w' v r := by
  obtain ⟨h1, h2, h3, L, h4, h5⟩ := h
  exact ⟨h1.step hb, h2, h3, L, own_held h4 hb, h5.mono (fun _ _ _ h => h.agree (.of_below hb))⟩
/-- Nothing was read, nothing was told. -/
def SameO (w w' : World) : Prop := w'.os = w.os ∧ w'.tape = w.tape ∧ w'.output = w.output
/-- What a cursor's own doings leave alone. -/
def CurStay (b : Nat) (v : Value) (w w' : World) (v' : Value) : Prop := AgreeF (fun x => x ≠ b ∧ v.ownBlock ≠ some x) w w' ∧ (v'.ownBlock = v.ownBlock ∨ ∀ g, v'.ownBlock = some g → w.heap.size ≤ g) ∧ SameO w w'
theorem CurStay.refl (b : Nat) (v : Value) (w : World) : CurStay b v w w v := ⟨AgreeF.refl w, .inl rfl, rfl, rfl, rfl⟩
theorem CurStay.trans {b : Nat} {v v' v'' : Value} {w w' w'' : World} (h : CurStay b v w w' v') (g : CurStay b v' w' w'' v'') : CurStay b v w w'' v'' := by
  obtain ⟨h1, h2, h3, h4, h5⟩ := h
  obtain ⟨g1, g2, g3, g4, g5⟩ := g
  refine ⟨⟨Nat.le_trans h1.1 g1.1, fun x hx hlt => ?_⟩, ?_, g3.trans h3, g4.trans h4, g5.trans h5⟩
  · rw [g1.2 x ⟨hx.1, fun e => ?_⟩ (Nat.lt_of_lt_of_le hlt h1.1)]
    · exact h1.2 x hx hlt
    · rcases h2 with h2 | h2
      · exact hx.2 (by rw [← h2]; exact e)
      · have := h2 x e; omega
  · rcases g2 with g2 | g2
    · rw [g2]; exact h2
    · exact .inr fun y hy => Nat.le_trans h1.1 (g2 y hy)
theorem CurStay.below {b : Nat} {v : Value} {w w' : World} (hb : Below w.heap.size w w') : CurStay b v w w' v := ⟨.of_below hb, .inl rfl, hb.os, hb.tape, hb.output⟩
/-- Whoever the cursor belongs to sees nothing turned of what was there before. -/
theorem CurStay.toBelow {b B : Nat} {v v' : Value} {w w' : World} (h : CurStay b v w w' v') (hb : B ≤ b) (hv : ∀ g, v.ownBlock = some g → B ≤ g) (hB : B ≤ w.heap.size) : Below B w w' :=
  ⟨h.2.2.1, h.2.2.2.1, h.2.2.2.2, h.1.1, fun x hx => h.1.2 x ⟨by omega, fun e => by have := hv x e; omega⟩ (by omega)⟩
/-- A step goes on top. -/
theorem CurAt.push {P : Program} {E t : TypeId} (ht : P.underlying t = some (.slice E)) (hi : RowInfo P E 6 96) {F : Nat → Prop} {N B b : Nat} {w : World} {v : Value} {r : List (Tr × Nat)} (h : CurAt E F N B b w v r) (hB : B ≤ w.heap.size) (hl : r.length ≤ 100000) {cs : List Value} {s : Tr × Nat} (hs : StepOn F N w cs s) :
    ∃ a' c' w', (Builtin.append_ #[t, t] t #[v, .slice (some ⟨w.heap.size, 0, none⟩) 1 1]).run P (w.alloc (.cells cs.toArray E)) = .ok (.slice a' (r.length + 1) c') w' ∧ Boxes w' [(b, [v])] ∧
      CurAt E F N B b (w'.setCell ⟨b, 0, none⟩ (.slice a' (r.length + 1) c')) (.slice a' (r.length + 1) c') (s :: r) ∧ CurStay b v w (w'.setCell ⟨b, 0, none⟩ (.slice a' (r.length + 1) c')) (.slice a' (r.length + 1) c') ∧ w.grownBy w' v.ownBlock := by
  obtain ⟨hx, hbB, hF, L, h1, h2⟩ := h
  obtain ⟨i, z, i1, i2, i3, i4, i5⟩ := hi
  have hge := own_ge h1
  obtain ⟨v', w', hr, ho, hg, hv⟩ := run_append_new (P := P) B t E i z 6 96 ht i1 i2 i3 i4 i5 (by decide) h1 cs.toArray (by simpa using hs.len) (by simpa using hs.one) (by unfold maxLen; omega) (by omega) hB
  have hsl : ∃ a' c', v' = .slice a' (r.length + 1) c' := by
    rcases ho.2 with ⟨rfl, h0⟩ | ⟨g, cap, cur, rfl, _⟩
    · exact ⟨none, 0, by rw [h0]⟩
    · exact ⟨_, _, rfl⟩
  obtain ⟨a', c', rfl⟩ := hsl
  have hne : v.ownBlock ≠ some b := fun e => by have := hge _ e; omega
  have hne' : (Value.slice a' (r.length + 1) c').ownBlock ≠ some b := fun e => by
    rcases hv with hv | hv
    · rw [hv] at e; exact hne e
    · rw [hv] at e
      have := Option.some.inj e
      have := hx.lt 0 rfl
      omega
  have hx' := hx.grown hg (by intro q hq e; simp at hq; subst hq; exact hne e)
  have hag : AgreeF (fun x => v.ownBlock ≠ some x) w w' := ⟨hg.size, fun x hx hlt => hg.block x hlt (fun e => hx e.symm)⟩
  have haF : AgreeF F w (w'.setCell ⟨b, 0, none⟩ (.slice a' (r.length + 1) c')) := AgreeF.set (hag.sub (fun x hf e => by have := hge _ e; have := hF x hf; omega)) (.inl fun hf => by have := hF _ hf; simp at this)
  refine ⟨a', c', w', hr, hx', ⟨hx'.put 0 (.slice a' (r.length + 1) c') (by simp), hbB, hF, L ++ [⟨cs, hs.len, hs.one⟩], ?_, ?_⟩, ⟨?_, ?_⟩, hg⟩
  · have e : flatC (L ++ [⟨cs, hs.len, hs.one⟩]) = flatC L ++ cs := by rw [flatC_append]; exact congrArg (flatC L ++ ·) (List.append_nil cs)
    rw [e]
    exact own_set ho _ _ hne'
  · rw [List.reverse_cons]
    exact (h2.mono (fun _ _ _ h => h.agree haF)).append (Tells.one (hs.agree haF))
  · exact AgreeF.set (hag.sub (fun x hx => hx.2)) (.inl fun h => h.1 rfl)
  · refine ⟨?_, hg.os, hg.tape, hg.output⟩
    rcases hv with hv | hv
    · exact .inl hv
    · exact .inr fun g e => by rw [hv] at e; have := Option.some.inj e; omega
/-- The top goes. -/
theorem CurAt.pop {E : TypeId} {F : Nat → Prop} {N B b : Nat} {w : World} {g n c : Nat} {s : Tr × Nat} {r : List (Tr × Nat)} (h : CurAt E F N B b w (.slice (some ⟨g, 0, none⟩) n c) (s :: r)) :
    CurAt E F N B b (w.setCell ⟨b, 0, none⟩ (.slice (some ⟨g, 0, none⟩) r.length c)) (.slice (some ⟨g, 0, none⟩) r.length c) r ∧ CurStay b (.slice (some ⟨g, 0, none⟩) n c) w (w.setCell ⟨b, 0, none⟩ (.slice (some ⟨g, 0, none⟩) r.length c)) (.slice (some ⟨g, 0, none⟩) r.length c) := by
  obtain ⟨hx, hbB, hF, L, h1, h2⟩ := h
  have hn : n = r.length + 1 := by
    rcases h1.2 with ⟨e, _⟩ | ⟨g', cap, cur, e, _⟩
    · cases e
    · cases e; rfl
  subst hn
  have hge := own_ge h1 g rfl
  have haF : AgreeF F w (w.setCell ⟨b, 0, none⟩ (.slice (some ⟨g, 0, none⟩) r.length c)) := AgreeF.set (AgreeF.refl w) (.inl fun hf => by have := hF _ hf; simp at this)
  refine ⟨⟨hx.put 0 (.slice (some ⟨g, 0, none⟩) r.length c) (by simp), hbB, hF, L.take r.length, ?_, ?_⟩, AgreeF.set (AgreeF.refl w) (.inl fun h => h.1 rfl), .inl rfl, rfl, rfl, rfl⟩
  · have := own_take h1 (show r.length ≤ r.length + 1 by omega)
    rw [flat_take] at this
    exact own_set this _ _ (fun e => by have : g = b := Option.some.inj e; omega)
  · have := (h2.mono (fun _ _ _ h => h.agree haF)).take r.length
    rw [List.reverse_cons, List.take_append_of_le_length (show r.length ≤ r.reverse.length by rw [List.length_reverse]; exact Nat.le_refl _), List.take_of_length_le (show r.reverse.length ≤ r.length by rw [List.length_reverse]; exact Nat.le_refl _)] at this
    exact this
/-- The top's place goes on. -/
theorem CurAt.bump {E : TypeId} {F : Nat → Prop} {N B b : Nat} {w : World} {g n c : Nat} {t : Tr} {k : Nat} {r : List (Tr × Nat)} (h : CurAt E F N B b w (.slice (some ⟨g, 0, none⟩) n c) ((t, k) :: r)) (k' : Nat) :
    CurAt E F N B b (w.setCell ⟨g, r.length * 6 + 5, none⟩ (.int .i64 (k' : Int))) (.slice (some ⟨g, 0, none⟩) n c) ((t, k') :: r) ∧ CurStay b (.slice (some ⟨g, 0, none⟩) n c) w (w.setCell ⟨g, r.length * 6 + 5, none⟩ (.int .i64 (k' : Int))) (.slice (some ⟨g, 0, none⟩) n c) := by
  obtain ⟨hx, hbB, hF, L, h1, h2⟩ := h
  have hn : n = r.length + 1 := by
    rcases h1.2 with ⟨e, _⟩ | ⟨g', cap, cur, e, _⟩
    · cases e
    · cases e; rfl
  subst hn
  have hge := own_ge h1 g rfl
  have hlen : L.length = r.length + 1 := by rw [h2.1]; simp
  obtain ⟨x, hxL⟩ : ∃ x, L[r.length]? = some x := ⟨_, List.getElem?_eq_getElem (by omega)⟩
  have hs := h2.2 r.length x (t, k) hxL (by simp)
  obtain ⟨a1, c1, a2, n2, c2, a3, n3, c3, ex, hn2⟩ := hs.words
  have haF : AgreeF F w (w.setCell ⟨g, r.length * 6 + 5, none⟩ (.int .i64 (k' : Int))) := AgreeF.set (AgreeF.refl w) (.inl fun hf => by have : g < b := hF _ hf; omega)
  have hs' : StepOn F N w [.int .i64 t.page, .bool t.isLeaf, .slice a1 (cntT t) c1, .slice a2 n2 c2, .slice a3 n3 c3, .int .i64 (k' : Int)] (t, k') := ⟨[.int .i64 t.page, .bool t.isLeaf, .slice a1 (cntT t) c1, .slice a2 n2 c2, .slice a3 n3 c3], rfl, hn2⟩
  obtain ⟨p, q, hp, q1, q2⟩ := flat_parts (fun y : Cl 6 => y.1) 6 (fun y => y.2.1) hxL
  have g0 := own_put h1 (r.length * 6 + 5) (.int .i64 (k' : Int)) (by show r.length * 6 + 5 < (r.length + 1) * 6; omega)
  have e1 : flatC L = p ++ ([.int .i64 t.page, .bool t.isLeaf, .slice a1 (cntT t) c1, .slice a2 n2 c2, .slice a3 n3 c3, .int .i64 (k : Int)] ++ q) := by rw [← ex]; exact q1
  have e2 : flatC (L.set r.length ⟨_, hs'.len, hs'.one⟩) = p ++ ([.int .i64 t.page, .bool t.isLeaf, .slice a1 (cntT t) c1, .slice a2 n2 c2, .slice a3 n3 c3, .int .i64 (k' : Int)] ++ q) := q2 ⟨_, hs'.len, hs'.one⟩
  refine ⟨⟨hx.set _ _ (by intro y hy; simp at hy; subst hy; show b ≠ g; omega), hbB, hF, L.set r.length ⟨_, hs'.len, hs'.one⟩, ?_, ?_⟩, AgreeF.set (AgreeF.refl w) (.inl fun h => h.2 rfl), .inl rfl, rfl, rfl, rfl⟩
  · rw [e2]
    rw [e1, ← hp] at g0
    rw [← hp]
    simpa using g0
  · have := (h2.mono (fun _ _ _ h => h.agree haF)).set r.length (x := ⟨_, hs'.len, hs'.one⟩) (y := (t, k')) (hs'.agree haF)
    rw [List.reverse_cons, List.set_append_right _ _ (show r.reverse.length ≤ r.length by rw [List.length_reverse]; exact Nat.le_refl _), List.length_reverse, Nat.sub_self, List.set_cons_zero] at this
    rw [List.reverse_cons]
    exact this
end Go.Proofs.YtpghlmcoajaiiaaDoor
