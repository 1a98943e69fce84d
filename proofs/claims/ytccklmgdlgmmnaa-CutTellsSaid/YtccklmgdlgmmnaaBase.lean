/- Words shared by the walks: what a slice of numbers reads as; worlds that only grew. -/
import Derived.Test.YtccklmgdlgmmnaaRows
import Derived.WalkKit
import Derived.WalkSpells
import Derived.WalkLawsBesides
import Derived.Lib.Hide
import Derived.RangeFuncRecord
namespace Go.Proofs.Ytccklmgdlgmmnaa
open Go.RowKit

/-- A slice value of so many numbers of a kind: it leads to the cells that hold them. -/
def Row (k : IntKind) (w : World) (a : Option Addr) (len cap : Nat) (l : List Int) : Prop :=
  l.length = len ∧ len ≤ cap ∧ cap ≤ maxLen ∧ (len = 0 ∨ ∃ b off, a = some ⟨b, off, none⟩ ∧ b < w.heap.size ∧
    ∀ i, i < len → w.cell? ⟨b, off + i, none⟩ = some (.int k (l[i]?.getD 0)))

/-- What the row's frame tells of a slice that came in gives a row of its elements. -/
theorem Row.of_frame {k : IntKind} {w : World} {a : Option Addr} {len cap : Nat} {zs : List Int}
    (h : (a = none ∧ len = 0 ∧ cap = 0 ∧ zs = []) ∨ ∃ x, a = some x ∧ len ≤ cap ∧ cap ≤ maxLen ∧ zs.length = cap ∧ (∀ i, i < zs.length → w.cell? (x.add i) = some (.int k (zs.getD i 0))) ∧ ∀ n ∈ zs, (Lit.int k n).wf = true) :
    Row k w a len cap (zs.take len) ∧ ∀ n ∈ zs.take len, (Lit.int k n).wf = true := by
  rcases h with ⟨rfl, rfl, rfl, rfl⟩ | ⟨x, rfl, hl, hm, hz, hc, hw⟩
  · exact ⟨⟨rfl, Nat.le_refl _, by unfold maxLen; omega, .inl rfl⟩, fun n hn => by simp at hn⟩
  · refine ⟨⟨by simp; omega, hl, hm, ?_⟩, fun n hn => hw n (List.mem_of_mem_take hn)⟩
    by_cases h0 : len = 0
    · exact .inl h0
    · obtain ⟨b, off, spot⟩ := x
      have h1 := hc 0 (by omega)
      have hspot : spot = none := by simpa [Addr.add] using World.cell?_spot h1
      subst hspot
      refine .inr ⟨b, off, rfl, ?_, fun i hi => ?_⟩
      · simp only [Addr.add, World.cell?] at h1
        by_cases hb : b < w.heap.size
        · exact hb
        · rw [Array.getElem?_eq_none (by simp; omega)] at h1
          simp at h1
      · have := hc i (by omega)
        have e : (⟨b, off, none⟩ : Addr).add i = ⟨b, off + i, none⟩ := by simp [Addr.add]
        rw [e] at this
        rw [this, List.getElem?_take_of_lt hi, List.getD_eq_getElem?_getD]

theorem Row.below {k : IntKind} {w w' : World} {a : Option Addr} {len cap : Nat} {l : List Int} {B : Nat} (hB : w.heap.size ≤ B) (hb : Below B w w') (h : Row k w a len cap l) : Row k w' a len cap l := by
  obtain ⟨h1, h2, h3, h4⟩ := h
  refine ⟨h1, h2, h3, ?_⟩
  rcases h4 with h4 | ⟨b, off, h5, h6, h7⟩
  · exact .inl h4
  · exact .inr ⟨b, off, h5, by have := hb.size; omega, fun i hi => (hb.cell (p := ⟨b, off + i, none⟩) (by simp; omega)).trans (h7 i hi)⟩

theorem Row.take {k : IntKind} {w : World} {a : Option Addr} {len cap : Nat} {l : List Int} (j : Nat) (hj : j ≤ len) (h : Row k w a len cap l) : Row k w a j cap (l.take j) := by
  obtain ⟨h1, h2, h3, h4⟩ := h
  refine ⟨by simp; omega, by omega, h3, ?_⟩
  rcases h4 with h4 | ⟨b, off, h5, h6, h7⟩
  · exact .inl (by omega)
  · exact .inr ⟨b, off, h5, h6, fun i hi => by rw [h7 i (by omega)]; simp [List.getElem?_take, hi]⟩

/-- The address at which the rest of a slice begins, under one name, and the run of the slice expression. -/
theorem slice_from {P : Program} {T : TypeId} (hT : P.underlying T = some (.slice (P.elem T))) {z : Nat} (hz : ∀ w, (sizeOf (P.elem T)).run P w = .ok z w) (a : Option Addr) (len cap j : Nat) (hj : j ≤ len) :
    ∃ a2, a2 = (if cap = j then a else a.map (·.add (j * z))) ∧ ∀ (k : IntKind) w, (Instr.slice T (.slice a len cap) (some (.int k j)) none none).run P w = .ok (.slice a2 (len - j) (cap - j)) w := by
  refine ⟨_, rfl, fun k w => ?_⟩
  rw [run_slice_l w T a len cap hT k j (by omega) (by omega), hz]
  rfl

theorem Row.drop {k : IntKind} {w : World} {a : Option Addr} {len cap : Nat} {l : List Int} (j : Nat) (hj : j ≤ len) (h : Row k w a len cap l) :
    Row k w (if cap = j then a else a.map (·.add (j * 1))) (len - j) (cap - j) (l.drop j) := by
  obtain ⟨h1, h2, h3, h4⟩ := h
  refine ⟨by simp; omega, by omega, by omega, ?_⟩
  rcases h4 with h4 | ⟨b, off, rfl, h6, h7⟩
  · exact .inl (by omega)
  · by_cases e : cap = j
    · exact .inl (by omega)
    · exact .inr ⟨b, off + j, by simp [e, Addr.add], h6, fun i hi => by rw [Nat.add_assoc, h7 (j + i) (by omega)]; simp⟩

theorem Row.made (k : IntKind) (W : World) (t : TypeId) (l : List Int) {b : Nat} (hb : W.heap.size = b) (h : l.length ≤ maxLen) :
    Row k (W.alloc (.cells (l.map (Value.int k)).toArray t)) (some ⟨b, 0, none⟩) l.length l.length l := by
  subst hb
  refine ⟨rfl, Nat.le_refl _, h, .inr ⟨_, _, rfl, by simp, fun i hi => ?_⟩⟩
  have := World.alloc_heap_new W (.cells (l.map (Value.int k)).toArray t)
  simp only [World.cell?, this]
  simp [hi]

/-- A fresh block of the call's own, and what a callee did above it, leave what was there as it was. -/
theorem below_alloc {w w1 w2 : World} {o : Obj} (h0 : Below w.heap.size w w1) (h : Below (w1.alloc o).heap.size (w1.alloc o) w2) : Below w.heap.size w w2 :=
  (h0.alloc h0.size o).trans (h.mono (by have := h0.size; simp; omega))

theorem ret_int {k : IntKind} {a b : Int} (h : a = b) : Ending.returned (.int k a) = .returned (.int k b) := by rw [h]
theorem ret_bool {a b : Bool} (h : a = b) : Ending.returned (.bool a) = .returned (.bool b) := by rw [h]

end Go.Proofs.Ytccklmgdlgmmnaa
