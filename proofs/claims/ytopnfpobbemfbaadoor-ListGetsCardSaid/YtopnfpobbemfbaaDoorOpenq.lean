/- What came in, opened: slices of bytes, slices of slices of bytes. -/
import Derived.Test.YtopnfpobbemfbaaDoorM2
namespace Go.Proofs.YtopnfpobbemfbaaDoor
open Go.RowKit Go.Deep Go.WideShapes Go.ChangeShapes

theorem bs_of_frame {w : World} {a : Option Addr} {len cap : Nat} {z : List Int}
    (h : (a = none ∧ len = 0 ∧ cap = 0 ∧ z = []) ∨ ∃ x, a = some x ∧ len ≤ cap ∧ cap ≤ maxLen ∧ z.length = cap ∧ (∀ i, i < z.length → w.cell? (x.add i) = some (.int .u8 (z.getD i 0))) ∧ ∀ n ∈ z, (Lit.int .u8 n).wf = true) :
    ∃ l, Bs w a len cap l := by
  have h := Row.of_frame h
  refine ⟨ofI (z.take len), ?_⟩
  show Row .u8 w a len cap (toI (ofI (z.take len)))
  rw [toI_ofI _ h.2]
  exact h.1

section
variable {H : Type} {enc : TypeId × Value → H} {P : Program} {w : World} {base : Nat}
theorem read_bs {t e : TypeId} (ht : P.underlying t = some (.slice e)) (he : P.underlying e = some (.int .u8)) (hc : P.cellsOf e = 1) :
    ∀ n cs x, cs.length = 1 → DataW.trod enc P w 0 (fun _ => true) true n t cs = some x → ∃ y, IsBs w cs y := by
  intro n cs x hlen h
  rcases open_ints ht he hc h with ⟨rfl, _⟩ | ⟨x, l, c, zs, rfl, _, hl, hm, hz, _, hcell, hwz⟩
  · obtain ⟨y, hy⟩ := bs_of_frame (w := w) (a := none) (len := 0) (cap := 0) (z := []) (.inl ⟨rfl, rfl, rfl, rfl⟩)
    exact ⟨y, _, _, _, rfl, hy⟩
  · obtain ⟨y, hy⟩ := bs_of_frame (w := w) (a := some x) (len := l) (cap := c) (z := zs) (.inr ⟨_, rfl, hl, hm, by simpa using hz, hcell, hwz⟩)
    exact ⟨y, _, _, _, rfl, hy⟩

theorem open_bs {t e : TypeId} (ht : P.underlying t = some (.slice e)) (he : P.underlying e = some (.int .u8)) (hc : P.cellsOf e = 1)
    {v : Value} {d : DataW H} {p : List MemPlace} (hv : Value.okWide P w .any base t v) (h : DataW.Trod enc P w 0 (fun _ => true) true t v d p) :
    ∃ a len cap l, v = .slice a len cap ∧ Bs w a len cap l := by
  obtain ⟨a, len, cap, rfl⟩ := okWide_slice ht hv
  obtain ⟨fuel, hf⟩ := h
  obtain ⟨y, a', n', c', e1, e2⟩ := read_bs ht he hc fuel _ _ (by simp [Value.cells]) hf
  simp [Value.cells] at e1
  obtain ⟨rfl, rfl, rfl⟩ := e1
  exact ⟨_, _, _, y, rfl, e2⟩

theorem open_bss {t e e2 : TypeId} (ht : P.underlying t = some (.slice e)) (he : P.underlying e = some (.slice e2)) (he2 : P.underlying e2 = some (.int .u8)) (hc : P.cellsOf e = 1) (hc2 : P.cellsOf e2 = 1)
    {v : Value} {d : DataW H} {p : List MemPlace} (hv : Value.okWide P w .any base t v) (h : DataW.Trod enc P w 0 (fun _ => true) true t v d p) :
    ∃ a len cap l, v = .slice a len cap ∧ Bss w a len cap l :=
  open_tab ht hc (by decide) (IsBs w) (read_bs he he2 hc2) hv h
end
end Go.Proofs.YtopnfpobbemfbaaDoor
