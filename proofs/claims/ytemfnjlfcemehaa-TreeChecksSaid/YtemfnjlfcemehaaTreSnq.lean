/- A whole tree of which a kid of the root has a cell less, or one twice: plain. -/
import Derived.Test.YtemfnjlfcemehaaTreSmq
namespace Go.Proofs.Ytemfnjlfcemehaa

theorem spK_same {kind : Int} (h : kind = 2 ∨ kind = 3) (key : List UInt8) (q i : Nat) (c : List UInt8 × Tr) : spK kind key q i c = c := by
  unfold spK
  rw [if_neg (by omega), if_neg (by omega)]
theorem spoil_pos {n : Nat} {kind : Int} (h : kind = 2 ∨ kind = 3) (a : Nat) {t : Tr} (hp : Pos (n + 1) t) (h2 : t.isLeaf = false → 2 ≤ cntT t) : Pos (n + 1) (spoilT (n + 1) [] kind a [] t) := by
  cases t with
  | leaf p l => unfold spoilT; split <;> trivial
  | node p l =>
    have hl : 2 ≤ l.length := h2 rfl
    unfold spoilT
    rw [if_neg (by omega)]
    have hlt : a % l.length < l.length := Nat.mod_lt _ (by omega)
    refine ⟨?_, fun d hd => ?_⟩
    · have := spTo_ge kind (a % l.length) (spK kind [] (a % l.length)) l l.length (Nat.le_refl _)
      rw [if_pos hlt] at this
      omega
    · obtain ⟨j, c, _, hc, rfl⟩ := spTo_mem hd
      rw [spK_same h]
      exact hp.2 c hc
/-- What the law's trees are: the root's kid k spoiled. -/
def spoiledL (n : Nat) (kind : Int) (a : Nat) (l : List (List UInt8 × Tr)) (k : Nat) : List (List UInt8 × Tr) := l.set k (keyAt l k, spoilT (n + 1) [] kind a [] (kidAt l k))
theorem spoil_root {n : Nat} {kind : Int} {a : Nat} {p : Int} {l : List (List UInt8 × Tr)} {k : Nat} {x : UInt8} (hk : k < l.length) (hx : x.toNat = k) : spoilT (n + 2) [x] kind a [] (.node p l) = .node p (spoiledL n kind a l k) := by
  have e : k % l.length = k := Nat.mod_eq_of_lt hk
  show (if l.length = 0 then _ else _) = _
  rw [if_neg (by omega), hx, e]
  rfl
theorem spoiled_fine {n : Nat} {kind : Int} (h : kind = 2 ∨ kind = 3) (a : Nat) {p : Int} {l : List (List UInt8 × Tr)} {k : Nat} (hk : k < l.length) (hw : Whole (n + 2) (.node p l)) :
    (∀ c ∈ spoiledL n kind a l k, Fine 101 (n + 1) c) ∧ (spoiledL n kind a l k).length = l.length ∧ l.length ≤ 50 ∧ MendOk n (spoiledL n kind a l k) := by
  have hsh := hw.1.1
  have hsum := hw.1.2.1
  have hl50 : l.length ≤ 50 := shape_cnt hsh (by omega)
  have hkids := node_kids hsh
  obtain ⟨h1, h0⟩ := shape_kids hsh
  have hgood : ∀ c ∈ l, ∃ lo hi, Good (n + 1) lo hi c.2 := fun c hc => by
    obtain ⟨lo, hi, g⟩ := kids_each h1 c hc
    exact ⟨lo, hi, g⟩
  obtain ⟨d, hd, ed⟩ := kid_mem (l := l) (k := k) hk
  have ekey : (keyAt l k).length ≤ 200 := key_len hkids k
  obtain ⟨lo, hi, gd⟩ := hgood d hd
  have hS : Fine 101 (n + 1) (keyAt l k, spoilT (n + 1) [] kind a [] (kidAt l k)) := by
    rw [← ed]
    refine ⟨ekey, spoil_fit [] kind a (shape_sml gd.1 (by have := gd.2.2; omega)) (by simp), spoil_pos h a (shape_pos gd.1) (fun hl => ?_)⟩
    cases hdd : d.2 with
    | leaf q m => rw [hdd] at hl; cases hl
    | node q m => rw [hdd] at gd; exact good_len gd
  have hfine : ∀ c ∈ l, Fine 101 (n + 1) c := fun c hc => by
    obtain ⟨lo, hi, g⟩ := hgood c hc
    exact ⟨(hkids c hc).1, (shape_sml g.1 (by have := g.2.2; omega)).fit, shape_pos g.1⟩
  have hall : ∀ c ∈ spoiledL n kind a l k, Fine 101 (n + 1) c := fun c hc => by
    rcases List.mem_or_eq_of_mem_set hc with hc | rfl
    · exact hfine c hc
    · exact hS
  have hlen : (spoiledL n kind a l k).length = l.length := List.length_set
  have hkind : ∀ c ∈ spoiledL n kind a l k, c.2.isLeaf = decide (n + 1 = 1) := fun c hc => by
    rcases List.mem_or_eq_of_mem_set hc with hc | rfl
    · obtain ⟨lo, hi, g⟩ := hgood c hc
      exact shape_kind g.1
    · show (spoilT (n + 1) [] kind a [] (kidAt l k)).isLeaf = _
      rw [spoil_kind, ← ed]
      exact shape_kind gd.1
  refine ⟨hall, hlen, hl50, ⟨by omega, fun c hc => Fit.bnd (by omega) (hall c hc).2.1, fun c hc e he => by rw [hkind c hc, hkind e he], fun c hc hl => (hall c hc).2.2.some hl, fun j hj => ?_⟩⟩
  obtain ⟨c, hc, ec⟩ := kid_mem (l := spoiledL n kind a l k) (k := j) (by omega)
  obtain ⟨e, he, ee⟩ := kid_mem (l := spoiledL n kind a l k) (k := j + 1) hj
  rw [← ec, ← ee]
  have hk2 : (keyAt (spoiledL n kind a l k) (j + 1)).length ≤ 200 := by
    have := (hall _ (List.getElem_mem hj)).1
    simpa [keyAt, hj] using this
  exact bnd_join (Fit.bnd (by omega) (hall c hc).2.1) (Fit.bnd (by omega) (hall e he).2.1) (by have := Fit.cnt (hall c hc).2.1; omega) (by have := Fit.cnt (hall e he).2.1; omega) hk2
/-- Mended, its top may be asked for. -/
theorem mended_top {n : Nat} {kind : Int} (h : kind = 2 ∨ kind = 3) (a : Nat) {p : Int} {l : List (List UInt8 × Tr)} {k : Nat} (hk : k < l.length) (hw : Whole (n + 2) (.node p l)) : TopOk (n + 2) (mendT p (spoiledL n kind a l k) k) ∧ Bnd (n + 2) (mendT p (spoiledL n kind a l k) k) := by
  obtain ⟨g1, g2, g3, _⟩ := spoiled_fine h a hk hw
  obtain ⟨q1, q2⟩ := mend_fine (B := 101) (by omega) (p := p) (l := spoiledL n kind a l k) (k := k) (by omega) (by omega) g1
  exact ⟨topOk_pos (Fit.bnd (by omega) q1) q2, Fit.bnd (by omega) q1⟩
end Go.Proofs.Ytemfnjlfcemehaa
