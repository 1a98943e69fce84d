/- Slices of records that came in: a slice of elements of so many cells reads as a list. -/
import Derived.Test.YtopnfpobbemfbaaBytes
import Derived.Deep.Slices
import Derived.ProofKit
import Derived.ChangeOld
namespace Go.Proofs.Ytopnfpobbemfbaa
open Go.RowKit Go.Deep Go.WideShapes

/-- A slice of elements of so many cells; R: what the cells of an element tell. -/
def TabR {α : Type} (sz : Nat) (R : List Value → α → Prop) (w : World) (a : Option Addr) (len cap : Nat) (l : List α) : Prop :=
  l.length = len ∧ len ≤ cap ∧ cap ≤ maxLen ∧ (a = none → cap = 0) ∧ (len = 0 ∨ ∃ b off, a = some ⟨b, off, none⟩ ∧ b < w.heap.size ∧
    ∀ i y, l[i]? = some y → ∃ cs, cs.length = sz ∧ R cs y ∧ ∀ j v, cs[j]? = some v → w.cell? ⟨b, off + i * sz + j, none⟩ = some v)

theorem TabR.mono {α : Type} {sz : Nat} {R R' : List Value → α → Prop} {w : World} {a : Option Addr} {len cap : Nat} {l : List α} (h : TabR sz R w a len cap l) (hR : ∀ cs y, R cs y → R' cs y) : TabR sz R' w a len cap l := by
  obtain ⟨h1, h2, h3, hn, h4⟩ := h
  refine ⟨h1, h2, h3, hn, ?_⟩
  rcases h4 with h4 | ⟨b, off, h5, h6, h7⟩
  · exact .inl h4
  · exact .inr ⟨b, off, h5, h6, fun i y hy => by obtain ⟨cs, c1, c2, c3⟩ := h7 i y hy; exact ⟨cs, c1, hR _ _ c2, c3⟩⟩

theorem TabR.below {α : Type} {sz : Nat} {R : List Value → α → Prop} {w w' : World} {a : Option Addr} {len cap : Nat} {l : List α} {B : Nat} (hB : w.heap.size ≤ B) (hb : Below B w w') (h : TabR sz R w a len cap l) : TabR sz R w' a len cap l := by
  obtain ⟨h1, h2, h3, hn, h4⟩ := h
  refine ⟨h1, h2, h3, hn, ?_⟩
  rcases h4 with h4 | ⟨b, off, h5, h6, h7⟩
  · exact .inl h4
  · exact .inr ⟨b, off, h5, by have := hb.size; omega, fun i y hy => by
      obtain ⟨cs, c1, c2, c3⟩ := h7 i y hy
      exact ⟨cs, c1, c2, fun j v hv => (hb.cell (p := ⟨b, off + i * sz + j, none⟩) (by simp; omega)).trans (c3 j v hv)⟩⟩

theorem TabR.at {α : Type} {sz : Nat} {R : List Value → α → Prop} {w : World} {a : Option Addr} {len cap : Nat} {l : List α} (h : TabR sz R w a len cap l) {k : Nat} (hk : k < len) :
    ∃ b off y cs, a = some ⟨b, off, none⟩ ∧ b < w.heap.size ∧ l[k]? = some y ∧ cs.length = sz ∧ R cs y ∧ ∀ j v, cs[j]? = some v → w.cell? ⟨b, off + k * sz + j, none⟩ = some v := by
  obtain ⟨h1, h2, h3, hn, h4⟩ := h
  rcases h4 with h4 | ⟨b, off, h5, h6, h7⟩
  · omega
  · have hy : l[k]? = some l[k] := List.getElem?_eq_getElem (by omega)
    obtain ⟨cs, c1, c2, c3⟩ := h7 k _ hy
    exact ⟨b, off, _, cs, h5, h6, hy, c1, c2, c3⟩

theorem add_none (b off j : Nat) : (⟨b, off, none⟩ : Addr).add j = ⟨b, off + j, none⟩ := by unfold Addr.add; split <;> simp_all

section
variable {H : Type} {enc : TypeId × Value → H} {P : Program} {w : World} {base : Nat}
/-- A slice that came in, opened: each element by a reader of its cells. -/
theorem open_tab {α : Type} {t e : TypeId} {sz : Nat} (ht : P.underlying t = some (.slice e)) (hsz : P.cellsOf e = sz) (hpos : 0 < sz) (R : List Value → α → Prop)
    (hR : ∀ n cs x, cs.length = sz → DataW.trod enc P w 0 (fun _ => true) true n e cs = some x → ∃ y, R cs y)
    {v : Value} {d : DataW H} {p : List MemPlace} (hv : Value.okWide P w .any base t v) (h : DataW.Trod enc P w 0 (fun _ => true) true t v d p) :
    ∃ a len cap l, v = .slice a len cap ∧ TabR sz R w a len cap l := by
  obtain ⟨a, len, cap, rfl⟩ := okWide_slice ht hv
  obtain ⟨fuel, hf⟩ := h
  rcases open_slice ht hf with ⟨hcs, _⟩ | ⟨x, len', cap', m, n, D, Pl, hcs, _, hl, hm, hmm, _, hx⟩
  · simp [Value.cells] at hcs
    obtain ⟨rfl, rfl, rfl⟩ := hcs
    exact ⟨none, 0, 0, [], rfl, rfl, Nat.le_refl _, by unfold maxLen; omega, fun _ => rfl, .inl rfl⟩
  · simp [Value.cells] at hcs
    obtain ⟨rfl, rfl, rfl⟩ := hcs
    have hlm : len ≤ m := by rw [hmm]; exact hl
    rw [hsz] at hx
    have each : ∀ i, i < len → ∃ q : α × List Value, q.2.length = sz ∧ R q.2 q.1 ∧ ∀ j, j < sz → w.cell? ((x.add (i * sz)).add j) = q.2[j]? := by
      intro i hi
      obtain ⟨cs', h1, h2⟩ := hx i (by omega)
      obtain ⟨_, hlen, hcell⟩ := World.cells?_some h1
      obtain ⟨y, hy⟩ := hR n cs' _ hlen h2
      exact ⟨(y, cs'), hlen, hy, hcell⟩
    by_cases h0 : len = 0
    · subst h0
      exact ⟨_, 0, cap, [], rfl, rfl, hl, hm, (fun h => by cases h), .inl rfl⟩
    · obtain ⟨q0, g1, _, g3⟩ := each 0 (by omega)
      haveI : Inhabited (α × List Value) := ⟨q0⟩
      obtain ⟨q, hq⟩ := choose_lt each
      have g4 := g3 0 hpos
      obtain ⟨v0, hv0⟩ : ∃ v0, q0.2[0]? = some v0 := ⟨_, List.getElem?_eq_getElem (by omega)⟩
      rw [hv0] at g4
      obtain ⟨b, off, spot⟩ := x
      have hspot : spot = none := by
        have := World.cell?_spot g4
        simp [Addr.add] at this
        exact this
      subst hspot
      simp only [add_none] at hq g4
      refine ⟨_, len, cap, (List.range len).map fun i => (q i).1, rfl, by simp, hl, hm, (fun h => by cases h), .inr ⟨b, off, rfl, ?_, fun i y hy => ?_⟩⟩
      · by_cases hb : b < w.heap.size
        · exact hb
        · simp only [World.cell?] at g4
          rw [Array.getElem?_eq_none (show w.heap.size ≤ b by omega)] at g4
          simp at g4
      · have hi : i < len := by
          have := (List.getElem?_eq_some_iff.1 hy).1
          simpa using this
        obtain ⟨c1, c2, c3⟩ := hq i hi
        have hy' : y = (q i).1 := by
          simp [hi] at hy; exact hy.symm
        subst hy'
        refine ⟨(q i).2, c1, c2, fun j v hv => ?_⟩
        have hj : j < sz := by rw [← c1]; exact (List.getElem?_eq_some_iff.1 hv).1
        rw [c3 j hj]; exact hv
end

/-- Two integers. -/
def IsPair (cs : List Value) (y : Int × Int) : Prop := cs = [.int .i64 y.1, .int .i64 y.2]
theorem read_pair {H : Type} {enc : TypeId × Value → H} {P : Program} {w : World} {e : TypeId} {f0 f1 : Field} (he : P.underlying e = some (.struct #[f0, f1])) (o0 : f0.offset = 0) (o1 : f1.offset = 1) (c0 : P.cellsOf f0.type = 1) (c1 : P.cellsOf f1.type = 1)
    (u0 : P.underlying f0.type = some (.int .i64)) (u1 : P.underlying f1.type = some (.int .i64)) :
    ∀ n cs x, cs.length = 2 → DataW.trod enc P w 0 (fun _ => true) true n e cs = some x → ∃ y, IsPair cs y := by
  intro n cs x hlen h
  obtain ⟨xs, k, _, _, _, hxl, hf⟩ := DataW.trod_struct he h
  match xs, hxl, cs, hlen with
  | [y0, y1], _, [v0, v1], _ =>
    have g0 := hf 0 f0 rfl
    have g1 := hf 1 f1 rfl
    simp [o0, o1, c0, c1] at g0 g1
    obtain ⟨n0, e0, _, _⟩ := DataW.trod_int u0 g0
    obtain ⟨n1, e1, _, _⟩ := DataW.trod_int u1 g1
    simp at e0 e1
    exact ⟨(n0, n1), by rw [e0, e1]; rfl⟩
end Go.Proofs.Ytopnfpobbemfbaa
