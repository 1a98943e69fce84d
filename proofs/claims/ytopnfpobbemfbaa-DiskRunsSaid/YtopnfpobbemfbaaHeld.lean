/- Blocks known whole, and single cells, held together through a region. -/
import Derived.Test.YtopnfpobbemfbaaBox
import Derived.Deep.RegionHeld
namespace Go.Proofs.Ytopnfpobbemfbaa
open Go.RowKit

def Held (l : List (Nat × List Value)) (c : List (Addr × Value)) (W : World) : Prop := Boxes W l ∧ ∀ p ∈ c, W.cell? p.1 = some p.2
theorem Held.mk {l : List (Nat × List Value)} {c : List (Addr × Value)} {W : World} (h : Boxes W l) (hc : ∀ p ∈ c, W.cell? p.1 = some p.2) : Held l c W := ⟨h, hc⟩
theorem Held.below {l : List (Nat × List Value)} {c : List (Addr × Value)} {W W' : World} (h : Held l c W) (hb : Below W.heap.size W W') : Held l c W' :=
  ⟨h.1.step hb, fun p hp => (hb.cell (World.block_lt_of_cell? W p.1 (h.2 p hp))).trans (h.2 p hp)⟩
theorem Held.alloc {l : List (Nat × List Value)} {c : List (Addr × Value)} {W : World} (h : Held l c W) (o : Obj) : Held l c (W.alloc o) := h.below ((Below.refl _ _).alloc (Nat.le_refl _) o)
theorem Held.drew {l : List (Nat × List Value)} {c : List (Addr × Value)} {W : World} (h : Held l c W) : Held l c W.drew := h
theorem Held.grown {l : List (Nat × List Value)} {c : List (Addr × Value)} {W W' : World} {row : Option Nat} (h : Held l c W) (hg : W.grownBy W' row) (hne : ∀ p ∈ l, row ≠ some p.1) (hnc : ∀ p ∈ c, row ≠ some p.1.block) : Held l c W' :=
  ⟨h.1.grown hg hne, fun p hp => (World.cell?_of_block (hg.block p.1.block (World.block_lt_of_cell? W p.1 (h.2 p hp)) (fun e => hnc p hp e.symm))).trans (h.2 p hp)⟩
theorem Held.set {l : List (Nat × List Value)} {c : List (Addr × Value)} {W : World} (h : Held l c W) (a : Addr) (u : Value) (hne : ∀ p ∈ l, p.1 ≠ a.block) (hnc : ∀ p ∈ c, p.1.block ≠ a.block) : Held l c (W.setCell a u) :=
  ⟨h.1.set a u hne, fun p hp => (World.cell?_setCell_far W a p.1 u (fun e => hnc p hp e.symm)).trans (h.2 p hp)⟩
theorem Held.box {l : List (Nat × List Value)} {c : List (Addr × Value)} {W : World} (h : Held l c W) (n i : Nat) {b : Nat} {vs : List Value} {v : Value} (hn : l[n]? = some (b, vs)) (hv : vs[i]? = some v) : W.cell? ⟨b, i, none⟩ = some v := h.1.cell n i hn hv
theorem Held.cell {l : List (Nat × List Value)} {c : List (Addr × Value)} {W : World} (h : Held l c W) (n : Nat) {a : Addr} {v : Value} (hn : c[n]? = some (a, v)) : W.cell? a = some v := h.2 (a, v) (List.mem_of_getElem? hn)
end Go.Proofs.Ytopnfpobbemfbaa
