/- Rows of records of the call's own. -/
import Derived.Test.YtopnfpobbemfbaaRec
import Derived.Test.YtopnfpobbemfbaaApp
namespace Go.Proofs.Ytopnfpobbemfbaa
open Go.RowKit

theorem flat_len {α β : Type} (f : α → List β) (sz : Nat) (hf : ∀ y, (f y).length = sz) : ∀ l : List α, (l.flatMap f).length = l.length * sz
  | [] => by simp
  | y :: l => by simp [List.flatMap_cons, flat_len f sz hf l, hf y, Nat.add_mul]; omega
theorem flat_get {α β : Type} (f : α → List β) (sz : Nat) (hf : ∀ y, (f y).length = sz) : ∀ (l : List α) (i : Nat) (y : α) (j : Nat) (v : β), l[i]? = some y → (f y)[j]? = some v → (l.flatMap f)[i * sz + j]? = some v
  | [], i, y, j, v, h, _ => by simp at h
  | x :: l, 0, y, j, v, h, hv => by
    cases h
    have hj := (List.getElem?_eq_some_iff.1 hv).1
    rw [List.flatMap_cons, Nat.zero_mul, Nat.zero_add, List.getElem?_append_left hj]; exact hv
  | x :: l, i + 1, y, j, v, h, hv => by
    have h' : l[i]? = some y := by simpa using h
    rw [List.flatMap_cons, List.getElem?_append_right (by rw [hf, Nat.add_mul]; omega), hf, show (i + 1) * sz + j - sz = i * sz + j by rw [Nat.add_mul]; omega]
    exact flat_get f sz hf l i y j v h' hv
/-- A row of records of the call's own reads as one. -/
theorem TabR.of_own {α : Type} {sz : Nat} {R : List Value → α → Prop} (f : α → List Value) (hf : ∀ y, (f y).length = sz) (hR : ∀ y, R (f y) y) {w : World} {base : Nat} {e : TypeId} {v : Value} {l : List α} (h : w.ownsRow base e sz v l.length (l.flatMap f)) :
    ∃ a cap, v = .slice a l.length cap ∧ TabR sz R w a l.length cap l := by
  obtain ⟨h1, h2⟩ := h
  rcases h2 with ⟨rfl, h0⟩ | ⟨g, cap, cur, rfl, hb, hg, hn, hm, hc, ht⟩
  · have : l.length = 0 := h0
    rw [h0]
    exact ⟨none, 0, rfl, by omega, Nat.le_refl _, by unfold maxLen; omega, fun _ => rfl, .inl rfl⟩
  · refine ⟨_, cap, rfl, rfl, hn, hm, (fun h => by cases h), .inr ⟨g, 0, rfl, (Array.getElem?_eq_some_iff.1 hg).1, fun i y hy => ⟨f y, hf y, hR y, fun j v hv => ?_⟩⟩⟩
    have hi := (List.getElem?_eq_some_iff.1 hy).1
    have hj : j < sz := by rw [← hf y]; exact (List.getElem?_eq_some_iff.1 hv).1
    have hx := flat_get f sz hf l i y j v hy hv
    rw [← ht] at hx
    have hlt : i * sz + j < l.length * sz := by
      have := Nat.mul_le_mul_right sz (show i + 1 ≤ l.length by omega)
      rw [Nat.add_mul] at this; omega
    rw [List.getElem?_take_of_lt hlt] at hx
    simp only [World.cell?, hg, Nat.zero_add]
    rw [← Array.getElem?_toList]; exact hx
end Go.Proofs.Ytopnfpobbemfbaa
