/- Boxes: blocks that are known whole; carried through worlds all at once. -/
import Derived.Test.YtopnfpobbemfbaaBytes
namespace Go.Proofs.Ytopnfpobbemfbaa
open Go.RowKit

/-- Blocks, and what they hold. -/
def Boxes (w : World) (l : List (Nat × List Value)) : Prop := ∀ p ∈ l, ∃ t, w.heap[p.1]? = some (.cells p.2.toArray t (0, 0))
theorem Boxes.nil (w : World) : Boxes w [] := fun p h => by simp at h
theorem Boxes.cons {w : World} {l : List (Nat × List Value)} {b : Nat} {vs : List Value} {t : TypeId} (h : w.heap[b]? = some (.cells vs.toArray t (0, 0))) (hl : Boxes w l) : Boxes w ((b, vs) :: l) := by
  intro p hp
  rcases List.mem_cons.1 hp with rfl | hp
  · exact ⟨t, h⟩
  · exact hl p hp
theorem Boxes.below {w w' : World} {l : List (Nat × List Value)} {B : Nat} (h : Boxes w l) (hB : w.heap.size ≤ B) (hb : Below B w w') : Boxes w' l := by
  intro p hp
  obtain ⟨t, ht⟩ := h p hp
  exact ⟨t, (hb.block p.1 (Nat.lt_of_lt_of_le (Array.getElem?_eq_some_iff.1 ht).1 hB)).trans ht⟩
theorem Boxes.step {w w' : World} {l : List (Nat × List Value)} (h : Boxes w l) (hb : Below w.heap.size w w') : Boxes w' l := h.below (Nat.le_refl _) hb
theorem Boxes.set {w : World} {l : List (Nat × List Value)} (h : Boxes w l) (a : Addr) (u : Value) (hne : ∀ p ∈ l, p.1 ≠ a.block) : Boxes (w.setCell a u) l := by
  intro p hp
  obtain ⟨t, ht⟩ := h p hp
  exact ⟨t, (Below.heap_setCell w a u p.1 (hne p hp)).trans ht⟩
/-- A cell of the first block is written. -/
theorem Boxes.put {w : World} {l : List (Nat × List Value)} {b : Nat} {vs : List Value} (h : Boxes w ((b, vs) :: l)) (i : Nat) (u : Value) (hne : ∀ p ∈ l, p.1 ≠ b) : Boxes (w.setCell ⟨b, i, none⟩ u) ((b, vs.set i u) :: l) := by
  obtain ⟨t, ht⟩ := h (b, vs) (by simp)
  refine Boxes.cons (t := t) ?_ (Boxes.set (fun p hp => h p (by simp [hp])) _ _ hne)
  rw [heap_setCell_at i u ht]
  simp
theorem Boxes.grown {w w' : World} {l : List (Nat × List Value)} {row : Option Nat} (h : Boxes w l) (hg : w.grownBy w' row) (hne : ∀ p ∈ l, row ≠ some p.1) : Boxes w' l := by
  intro p hp
  obtain ⟨t, ht⟩ := h p hp
  exact ⟨t, (hg.block p.1 (Array.getElem?_eq_some_iff.1 ht).1 (fun e => hne p hp e.symm)).trans ht⟩
/-- The i-th cell of the n-th block. -/
theorem Boxes.cell {w : World} {l : List (Nat × List Value)} (h : Boxes w l) (n i : Nat) {b : Nat} {vs : List Value} {v : Value} (hn : l[n]? = some (b, vs)) (hv : vs[i]? = some v) : w.cell? ⟨b, i, none⟩ = some v := by
  obtain ⟨t, ht⟩ := h (b, vs) (List.mem_of_getElem? hn)
  simp only [World.cell?, ht]
  simpa using hv
theorem Boxes.frozen {w : World} {l : List (Nat × List Value)} (h : Boxes w l) (n i : Nat) {b : Nat} {vs : List Value} (hn : l[n]? = some (b, vs)) : w.frozen? ⟨b, i, none⟩ = false := by
  obtain ⟨t, ht⟩ := h (b, vs) (List.mem_of_getElem? hn)
  simp [World.frozen?, ht]
theorem Boxes.lt {w : World} {l : List (Nat × List Value)} (h : Boxes w l) (n : Nat) {b : Nat} {vs : List Value} (hn : l[n]? = some (b, vs)) : b < w.heap.size := by
  obtain ⟨t, ht⟩ := h (b, vs) (List.mem_of_getElem? hn)
  exact (Array.getElem?_eq_some_iff.1 ht).1
/-- A fresh block. -/
theorem Boxes.alloc {w : World} {l : List (Nat × List Value)} (h : Boxes w l) (vs : Array Value) (t : TypeId) {b : Nat} (hb : w.heap.size = b) : Boxes (w.alloc (.cells vs t)) ((b, vs.toList) :: l) := by
  subst hb
  exact Boxes.cons (t := t) (by rw [World.alloc_heap_new w (.cells vs t)]) (h.step ((Below.refl _ _).alloc (Nat.le_refl _) _))
theorem Boxes.sub {w : World} {l m : List (Nat × List Value)} (h : Boxes w l) (hm : ∀ p ∈ m, p ∈ l) : Boxes w m := fun p hp => h p (hm p hp)
theorem Boxes.drew {w : World} {l : List (Nat × List Value)} (h : Boxes w l) : Boxes w.drew l := h

theorem own_set {w : World} {base : Nat} {e : TypeId} {size : Nat} {v : Value} {n : Nat} {xs : List Value} (h : w.ownsRow base e size v n xs) (a : Addr) (u : Value) (hne : v.ownBlock ≠ some a.block) : (w.setCell a u).ownsRow base e size v n xs := by
  refine ⟨h.1, h.2.imp id fun ⟨g, cap, cur, e1, hg, hh, r⟩ => ⟨g, cap, cur, e1, hg, ?_, r⟩⟩
  rw [Below.heap_setCell w a u g (by subst e1; intro e; exact hne (by rw [← e]; rfl))]; exact hh
end Go.Proofs.Ytopnfpobbemfbaa
