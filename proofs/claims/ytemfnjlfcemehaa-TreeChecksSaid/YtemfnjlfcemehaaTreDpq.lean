/- A key struck out: what the walk asks. -/
import Derived.Test.YtemfnjlfcemehaaM7
import Derived.Test.YtemfnjlfcemehaaM9
import Derived.Test.YtemfnjlfcemehaaTreDlq
namespace Go.Proofs.Ytemfnjlfcemehaa
open Go.RowKit

/-- What striking a key out asks of a tree. -/
def DelOk : Nat → Tr → List UInt8 → Prop
  | 0, _, _ => False
  | _ + 1, .leaf _ l, key => l.length ≤ 900 ∧ (keysOf l).Pairwise (fun a b => a < b) ∧ hasK key (keysOf l) = true
  | n + 1, .node _ l, key => 0 < l.length ∧ l.length ≤ 1000 ∧ DelOk n (kidAt l (wayF (keysOf l) key)) key ∧ ∃ m, n = m + 1 ∧ MendOk m (l.set (wayF (keysOf l) key) (keyAt l (wayF (keysOf l) key), delT n (kidAt l (wayF (keysOf l) key)) key))
theorem find_has {l : List (List UInt8 × Tv)} {key : List UInt8} (hs : (keysOf l).Pairwise (fun a b => a < b)) (h : (l.find? fun c => c.1 == key).isSome = true) : hasK key (keysOf l) = true := by
  have := look_pos (key := key) hs
  unfold lookT at this
  cases hf : l.find? (fun c => c.1 == key) with
  | none => rw [hf] at h; cases h
  | some c =>
    rw [hf] at this
    cases hk : hasK key (keysOf l) with
    | true => rfl
    | false => rw [hk] at this; cases this
theorem delOk_of : ∀ {n : Nat} {lo hi key : List UInt8} {t : Tr}, Shape n lo hi t → sumT t ≤ 122 → (∀ p l, t = .node p l → 2 ≤ l.length) → ¬ key < lo → ltH hi key → findT n t key ≠ none → DelOk n t key
  | 0, _, _, _, _, h, _, _, _, _, _ => h.elim
  | n + 1, lo, hi, key, .leaf p l, h, hs, _, hlo, hhi, hf => by
    have hc : l.length ≤ 50 := shape_cnt h (by omega)
    obtain ⟨rfl, hl⟩ := h
    refine ⟨by omega, hl.1, find_has hl.1 ?_⟩
    cases hx : l.find? (fun c => c.1 == key) with
    | some c => rfl
    | none => exact absurd (show ((l.find? fun c => c.1 == key).map (·.2.data)) = none by rw [hx]; rfl) hf
  | n + 1, lo, hi, key, .node p l, h, hs, h2, hlo, hhi, hf => by
    have hc : l.length ≤ 50 := shape_cnt h (by omega)
    have hall := node_kids h
    obtain ⟨h1, h0⟩ := shape_kids h
    have hl2 := h2 p l rfl
    obtain ⟨a, c, b, lo', hi', e, hal, hcx, hp, g1, g2⟩ := way_focus h1 hlo hhi
    have hkid : kidAt l (wayF (keysOf l) key) = c.2 := by
      rw [← hal]
      conv => lhs; rw [e]
      exact kidAt_at a b c
    have hf' : findT n c.2 key ≠ none := by
      rw [← hkid]; exact hf
    have i0 := delOk_of hp.1 hp.2.2 (fun q m e => good_len (p := q) (by rw [← e]; exact hp)) g1 g2 hf'
    obtain ⟨i1, i2, _⟩ := del_ok hp.1 hp.2.2 (fun q m e => good_len (p := q) (by rw [← e]; exact hp)) g1 g2
    cases n with
    | zero => exact hp.1.elim
    | succ m =>
      refine ⟨by omega, by omega, by rw [hkid]; exact i0, m, rfl, ?_⟩
      rw [hkid]
      exact mendOk_of (by simp; omega) (set_kids hall (key_len hall _) i1 (by omega))
theorem Whole.del {n : Nat} {t : Tr} {key : List UInt8} (h : Whole n t) (hf : findT n t key ≠ none) : DelOk n t key ∧ TopOk n (delT n t key) := by
  obtain ⟨i1, i2, _⟩ := del_ok h.1.1 h.1.2.1 h.1.2.2 (knil key) (ltH_nil _)
  exact ⟨delOk_of h.1.1 h.1.2.1 h.1.2.2 (knil key) (ltH_nil _) hf, topOk_of i1 (by omega)⟩
/-- The list without the one at a place. -/
theorem delL_pos {key : List UInt8} {l : List (List UInt8 × Tv)} (hs : (keysOf l).Pairwise (fun a b => a < b)) (h : hasK key (keysOf l) = true) : delL key l = l.take (posK key (keysOf l)) ++ l.drop (posK key (keysOf l) + 1) := by
  obtain ⟨x, hx, hk⟩ := pos_has h
  have hl := (List.getElem?_eq_some_iff.1 hx).1
  obtain ⟨p, hp⟩ : ∃ p, posK key (keysOf l) = p := ⟨_, rfl⟩
  rw [hp] at hx hl ⊢
  have he : l = l.take p ++ x :: l.drop (p + 1) := by
    rw [← (List.getElem?_eq_some_iff.1 hx).2]; simp
  have h1 : ∀ c ∈ l.take p, c.1 ≠ key := by
    intro c hc e
    obtain ⟨i, hi⟩ := List.mem_iff_getElem?.1 hc
    have hip : i < p := by have := (List.getElem?_eq_some_iff.1 hi).1; simp at this; omega
    rw [List.getElem?_take_of_lt hip] at hi
    have := pair_get hs hip (by simpa [keysOf] using hl)
    simp [keysOf, hi, hx, e, hk] at this
    exact klt_irrefl _ this
  have h2 : ∀ c ∈ l.drop (p + 1), c.1 ≠ key := by
    intro c hc e
    obtain ⟨i, hi⟩ := List.mem_iff_getElem?.1 hc
    rw [List.getElem?_drop] at hi
    have hil := (List.getElem?_eq_some_iff.1 hi).1
    have := pair_get hs (show p < p + 1 + i by omega) (by simpa [keysOf] using hil)
    simp [keysOf, hi, hx, e, hk] at this
    exact klt_irrefl _ this
  have hx1 : delL key [x] = [] := by unfold delL; simp [hk]
  conv => lhs; rw [he]
  rw [delL_append, show x :: l.drop (p + 1) = [x] ++ l.drop (p + 1) from rfl, delL_append, hx1, delL_none h1, delL_none h2]
  rfl
theorem set_swap {α : Type} {l : List α} {k : Nat} (h : k < l.length) (y : α) : l.set k y = swapL l k 1 [y] := by
  unfold swapL
  rw [List.set_eq_take_append_cons_drop, if_pos h]; rfl
/-- One record of five written over. -/
theorem own_set5 {w : World} {B g n c : Nat} {e : TypeId} {C : List (Cl 5)} (h : w.ownsRow B e 5 (.slice (some ⟨g, 0, none⟩) n c) n (flatC C)) (hn : C.length = n) {k : Nat} (hk : k < n) (y : Cl 5) {y0 y1 y2 y3 y4 : Value} (hy : y.1 = [y0, y1, y2, y3, y4]) :
    (((((w.setCell ⟨g, k * 5, none⟩ y0).setCell ⟨g, k * 5 + 1, none⟩ y1).setCell ⟨g, k * 5 + 2, none⟩ y2).setCell ⟨g, k * 5 + 3, none⟩ y3).setCell ⟨g, k * 5 + 4, none⟩ y4).ownsRow B e 5 (.slice (some ⟨g, 0, none⟩) n c) n (flatC (C.set k y)) := by
  obtain ⟨x, hx⟩ : ∃ x, C[k]? = some x := ⟨_, List.getElem?_eq_getElem (by omega)⟩
  obtain ⟨p, s, hp, h1, h2⟩ := flat_parts (fun y : Cl 5 => y.1) 5 (fun y => y.2.1) hx
  have hk3 : k * 5 + 4 < n * 5 := by omega
  obtain ⟨x0, x1, x2, x3, x4, hxe⟩ : ∃ x0 x1 x2 x3 x4, x.1 = [x0, x1, x2, x3, x4] := by
    have := x.2.1
    match hm : x.1, this with
    | [x0, x1, x2, x3, x4], _ => exact ⟨x0, x1, x2, x3, x4, rfl⟩
  have g0 := own_put h (k * 5) y0 (by omega)
  have g1 := own_put g0 (k * 5 + 1) y1 (by omega)
  have g2 := own_put g1 (k * 5 + 2) y2 (by omega)
  have g3 := own_put g2 (k * 5 + 3) y3 (by omega)
  have g4 := own_put g3 (k * 5 + 4) y4 (by omega)
  unfold flatC at g4 ⊢
  rw [h2 y, hy]
  rw [h1, hxe, set_five hp] at g4
  exact g4
end Go.Proofs.Ytemfnjlfcemehaa
