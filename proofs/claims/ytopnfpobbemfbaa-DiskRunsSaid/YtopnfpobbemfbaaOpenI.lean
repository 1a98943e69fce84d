/- What came in, opened: slices of integers. -/
import Derived.Test.YtopnfpobbemfbaaRec
namespace Go.Proofs.Ytopnfpobbemfbaa
open Go.RowKit Go.Deep Go.WideShapes Go.ChangeShapes

/-- Integers that came in. -/
def Ints (w : World) (a : Option Addr) (len cap : Nat) (l : List Int) : Prop := Row .i64 w a len cap l ∧ ∀ n ∈ l, (Lit.int .i64 n).wf = true
theorem open_intsR {H : Type} {enc : TypeId × Value → H} {P : Program} {w : World} {base : Nat} {t e : TypeId} (ht : P.underlying t = some (.slice e)) (he : P.underlying e = some (.int .i64)) (hc : P.cellsOf e = 1)
    {v : Value} {d : DataW H} {p : List MemPlace} (hv : Value.okWide P w .any base t v) (h : DataW.Trod enc P w 0 (fun _ => true) true t v d p) :
    ∃ a len cap l, v = .slice a len cap ∧ Ints w a len cap l := by
  obtain ⟨a, len, cap, rfl⟩ := okWide_slice ht hv
  obtain ⟨fuel, hf⟩ := h
  rcases open_ints ht he hc hf with ⟨hcs, _⟩ | ⟨x, l, c, zs, hcs, _, hl, hm, hz, _, hcell, hwz⟩
  · simp [Value.cells] at hcs
    obtain ⟨rfl, rfl, rfl⟩ := hcs
    exact ⟨none, 0, 0, _, rfl, Row.of_frame (.inl ⟨rfl, rfl, rfl, rfl⟩)⟩
  · simp [Value.cells] at hcs
    obtain ⟨rfl, rfl, rfl⟩ := hcs
    exact ⟨_, _, _, _, rfl, Row.of_frame (.inr ⟨_, rfl, hl, hm, by simpa using hz, hcell, hwz⟩)⟩
end Go.Proofs.Ytopnfpobbemfbaa
