/- What came in, opened: bytes; texts. -/
import Derived.Test.YtemfnjlfcemehaaM1
import Derived.ChangeArms
import Derived.OpenShut
namespace Go.Proofs.Ytemfnjlfcemehaa
open Go.RowKit Go.Deep Go.WideShapes Go.ChangeShapes

theorem bs_frameT {w : World} {a : Option Addr} {len cap : Nat} {z : List Int}
    (h : (a = none ∧ len = 0 ∧ cap = 0 ∧ z = []) ∨ ∃ x, a = some x ∧ len ≤ cap ∧ cap ≤ maxLen ∧ z.length = cap ∧ (∀ i, i < z.length → w.cell? (x.add i) = some (.int .u8 (z.getD i 0))) ∧ ∀ n ∈ z, (Lit.int .u8 n).wf = true) :
    ∃ l, Bs w a len cap l := by
  have h := Row.of_frame h
  refine ⟨ofI (z.take len), ?_⟩
  show Row .u8 w a len cap (toI (ofI (z.take len)))
  rw [toI_ofI _ h.2]
  exact h.1

section
variable {H : Type} {enc : TypeId × Value → H} {P : Program} {w : World} {base : Nat}
theorem open_bsT {t e : TypeId} (ht : P.underlying t = some (.slice e)) (he : P.underlying e = some (.int .u8)) (hc : P.cellsOf e = 1)
    {v : Value} {d : DataW H} {p : List MemPlace} (hv : Value.okWide P w .any base t v) (h : DataW.Trod enc P w 0 (fun _ => true) true t v d p) :
    ∃ a len cap l, v = .slice a len cap ∧ Bs w a len cap l := by
  obtain ⟨a, len, cap, rfl⟩ := okWide_slice ht hv
  obtain ⟨fuel, hf⟩ := h
  rcases open_ints ht he hc hf with ⟨hcs, _⟩ | ⟨x, l, c, zs, hcs, _, hl, hm, hz, _, hcell, hwz⟩
  · simp [Value.cells] at hcs
    obtain ⟨rfl, rfl, rfl⟩ := hcs
    obtain ⟨y, hy⟩ := bs_frameT (a := none) (len := 0) (cap := 0) (z := []) (.inl ⟨rfl, rfl, rfl, rfl⟩)
    exact ⟨_, _, _, y, rfl, hy⟩
  · simp [Value.cells] at hcs
    obtain ⟨rfl, rfl, rfl⟩ := hcs
    obtain ⟨y, hy⟩ := bs_frameT (a := some x) (len := len) (cap := cap) (z := zs) (.inr ⟨_, rfl, hl, hm, by simpa using hz, hcell, hwz⟩)
    exact ⟨_, _, _, y, rfl, hy⟩
theorem rd_key {e : TypeId} (he : P.underlying e = some .string) : ∀ n cs x, cs.length = 1 → DataW.trod enc P w 0 (fun _ => true) true n e cs = some x → ∃ y, IsKey cs y := by
  intro n cs x _ h
  obtain ⟨s, e0, _, _⟩ := DataW.trod_string he h
  exact ⟨s.data.toList, by rw [e0]; rfl⟩
/-- A slice of texts that came in. -/
theorem open_keys {t e : TypeId} (ht : P.underlying t = some (.slice e)) (he : P.underlying e = some .string) (hc : P.cellsOf e = 1)
    {v : Value} {d : DataW H} {p : List MemPlace} (hv : Value.okWide P w .any base t v) (h : DataW.Trod enc P w 0 (fun _ => true) true t v d p) :
    ∃ a len cap l, v = .slice a len cap ∧ KeysIn w a len cap l :=
  open_tab ht hc (by decide) IsKey (rd_key he) hv h
end
end Go.Proofs.Ytemfnjlfcemehaa
