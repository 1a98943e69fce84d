/- The loose writes of a region, one by one. -/
import Derived.Test.YtopnfpobbemfbaaDskR
namespace Go.Proofs.Ytopnfpobbemfbaa
open Go.RowKit

theorem flatW_get {α : Type} (f : α → List Value) (n : Nat) (hf : ∀ x, (f x).length = n) : ∀ (l : List α) (k : Nat) (x : α), l[k]? = some x → ∀ j, j < n → (l.flatMap f)[k * n + j]? = (f x)[j]?
  | [], k, x, h, j, hj => by simp at h
  | y :: l, 0, x, h, j, hj => by
    simp at h; subst h
    rw [List.flatMap_cons, Nat.zero_mul, Nat.zero_add, List.getElem?_append_left (by rw [hf]; exact hj)]
  | y :: l, k + 1, x, h, j, hj => by
    simp at h
    rw [List.flatMap_cons, List.getElem?_append_right (by rw [hf, Nat.add_mul]; omega), hf, show (k + 1) * n + j - n = k * n + j by rw [Nat.add_mul]; omega]
    exact flatW_get f n hf l k x h j hj
/-- A loose write's cells. -/
theorem own_range {w : World} {base : Nat} {e : TypeId} {v : Value} {l : List (Nat × P128)} (h : w.ownsRow base e 129 v l.length (l.flatMap wcells)) {k : Nat} {x : Nat × P128} (hk : l[k]? = some x) :
    ∃ g cap, v = .slice (some ⟨g, 0, none⟩) l.length cap ∧ l.length ≤ cap ∧ cap ≤ maxLen ∧ w.rangeAt g (k * 129) (wcells x) := by
  have hlt := (List.getElem?_eq_some_iff.1 hk).1
  rcases h.2 with ⟨_, h0⟩ | ⟨g, cap, cur, rfl, _, hg, hn, hm, hc, ht⟩
  · omega
  · refine ⟨g, cap, rfl, hn, hm, fun j u hu => ?_⟩
    have hj : j < 129 := by have := (List.getElem?_eq_some_iff.1 hu).1; rwa [wcells_length] at this
    have h1 := flatW_get wcells 129 wcells_length l k x hk j hj
    rw [hu, ← ht, List.getElem?_take_of_lt (by have : (k + 1) * 129 ≤ l.length * 129 := Nat.mul_le_mul_right _ hlt; omega)] at h1
    simp only [World.cell?, hg]
    rw [← Array.getElem?_toList]; exact h1
/-- The loose writes of a region, in its box. -/
theorem RegIn.loose {w : World} {fp : List Nat} {b M : Nat} {x : Rg} (h : RegIn w fp b M x) :
    ∃ a cap, w.cell? ⟨b, 2, none⟩ = some (.slice a x.loose.length cap) ∧ x.loose.length ≤ cap ∧ cap ≤ 9223372036854775807 ∧ x.loose.length ≤ M ∧ ∀ k y, x.loose[k]? = some y → ∃ g, a = some ⟨g, 0, none⟩ ∧ g ∈ fp ∧ w.rangeAt g (k * 129) (wcells y) := by
  obtain ⟨mb, n, v, h1, h2, h3, h4, h5, h6, h7, h8⟩ := h
  obtain ⟨a, cap, rfl, hc1, hc2, _⟩ := own_slice h3
  refine ⟨a, cap, by simp [World.cell?, h1], hc1, by unfold maxLen at hc2; omega, by omega, fun k y hy => ?_⟩
  obtain ⟨g, cap', e, _, _, hr⟩ := own_range h3 hy
  cases e
  exact ⟨g, rfl, h7 g rfl, hr⟩
/-- A loose write is loaded. -/
theorem load_write {W : World} {g o : Nat} {y : Nat × P128} (h : W.rangeAt g o (wcells y)) : (Instr.loadAt 78 (.pointer (some ⟨g, o, none⟩))).run Try.prog W = .ok (.agg (wcells y).toArray) W :=
  run_loadAt_mid W g o 78 (wcells y) _ h Try.underlying78 rfl (by rw [size_write, wcells_length])
theorem load_page {W : World} {g o : Nat} {l : P128} (h : W.rangeAt g o (pcells l.1)) : (Instr.loadAt 76 (.pointer (some ⟨g, o, none⟩))).run Try.prog W = .ok (pv l.1) W :=
  run_loadAt_mid W g o 76 (pcells l.1) _ h Try.underlying76 rfl (by rw [size_page, pcells_length, l.2])
theorem store_write {W : World} {g o : Nat} {y : Nat × P128} (h : W.there g o 129) : (Instr.storeAt 78 (.pointer (some ⟨g, o, none⟩)) (.agg (wcells y).toArray)).run Try.prog W = .ok () (W.setCells g o (wcells y)) := by
  have := run_storeAt_mid (P := Try.prog) W g o 78 (wcells y).toArray (by simpa [wcells_length] using h) (by rw [size_write]; simp [wcells_length]) (all_oneCell_toArray (wcells_one y))
  simpa using this
theorem store_page {W : World} {g o : Nat} {l : P128} (h : W.there g o 128) : (Instr.storeAt 76 (.pointer (some ⟨g, o, none⟩)) (pv l.1)).run Try.prog W = .ok () (W.setCells g o (pcells l.1)) := by
  have := run_storeAt_mid (P := Try.prog) W g o 76 (pcells l.1).toArray (by simpa [pcells_length, l.2] using h) (by rw [size_page]; simp [pcells_length, l.2]) (all_oneCell_toArray (pcells_one l.1))
  simpa [pv] using this
/-- The page within a loose write; its number. -/
theorem wcells_page {W : World} {g o : Nat} {y : Nat × P128} (h : W.rangeAt g o (wcells y)) : W.rangeAt g (o + 1) (pcells y.2.1) := fun j v hv => by
  have := h (j + 1) v (by simpa [wcells] using hv)
  rwa [show o + 1 + j = o + (j + 1) by omega]
theorem wcells_at {W : World} {g o : Nat} {y : Nat × P128} (h : W.rangeAt g o (wcells y)) : W.cell? ⟨g, o, none⟩ = some (.int .i64 (y.1 : Int)) := h 0 _ rfl
end Go.Proofs.Ytopnfpobbemfbaa
