/- What came in, opened, with its sizes: each part takes no more than memory has. -/
import Derived.Test.YtjdepdgoaopfoaaDoorOpen
import Derived.SizedLaws
namespace Go.Proofs.YtjdepdgoaopfoaaDoor
open Go.RowKit Go.Deep Go.WideShapes Go.ChangeShapes

section
variable {H : Type} {enc : TypeId × Value → H} {P : Program} {w : World} {base : Nat}
theorem weightsAll_mem {e : TypeId} : ∀ {l : List (DataW H)} {d : DataW H}, d ∈ l → ∀ n ∈ d.weights P e, n ∈ DataW.weightsAll P e l
  | x :: l, d, h, n, hn => by
    simp only [DataW.weightsAll, List.mem_append]
    rcases List.mem_cons.1 h with rfl | h
    · exact .inl hn
    · exact .inr (weightsAll_mem h n hn)
/-- A slice's cell, read: each element by a reader of its cells and its datum. -/
theorem read_tab {α : Type} {t e : TypeId} {sz : Nat} (ht : P.underlying t = some (.slice e)) (hsz : P.cellsOf e = sz) (hpos : 0 < sz) (R : List Value → α → Prop) (C : DataW H → Prop)
    (hR : ∀ n cs x, cs.length = sz → DataW.trod enc P w 0 (fun _ => true) true n e cs = some x → C x.1 → ∃ y, R cs y) :
    ∀ n cs x, DataW.trod enc P w 0 (fun _ => true) true n t cs = some x → (∀ elems spare, x.1 = .slice elems spare → ∀ d ∈ elems, C d) → ∃ a len cap l, cs = [.slice a len cap] ∧ TabR sz R w a len cap l ∧ (x.1 = .nil ∧ len = 0 ∨ ∃ elems spare, x.1 = .slice elems spare ∧ len = elems.length) := by
  intro fuel cs x hf hC
  rcases open_slice ht hf with ⟨hcs, rfl⟩ | ⟨ad, len, cap, m, n, D, Pl, hcs, _, hl, hm, hmm, rfl, hx⟩
  · exact ⟨none, 0, 0, [], hcs, ⟨rfl, Nat.le_refl _, by unfold maxLen; omega, fun _ => rfl, .inl rfl⟩, .inl ⟨rfl, rfl⟩⟩
  · have hlm : len ≤ m := by rw [hmm]; exact hl
    rw [hsz] at hx
    have hwl : ∀ i, i < len → C (D i) := fun i hi => hC _ _ rfl _ (List.mem_map.2 ⟨i, by simpa using hi, rfl⟩)
    have hlast : (DataW.slice ((List.range len).map D) ((List.range (m - len)).map fun j => D (len + j)) = .nil ∧ len = 0 ∨ ∃ elems spare, DataW.slice ((List.range len).map D) ((List.range (m - len)).map fun j => D (len + j)) = .slice elems spare ∧ len = elems.length) := .inr ⟨_, _, rfl, by simp⟩
    have each : ∀ i, i < len → ∃ q : α × List Value, q.2.length = sz ∧ R q.2 q.1 ∧ ∀ j, j < sz → w.cell? ((ad.add (i * sz)).add j) = q.2[j]? := by
      intro i hi
      obtain ⟨cs', h1, h2⟩ := hx i (by omega)
      obtain ⟨_, hlen, hcell⟩ := World.cells?_some h1
      obtain ⟨y, hy⟩ := hR n cs' _ hlen h2 (hwl i hi)
      exact ⟨(y, cs'), hlen, hy, hcell⟩
    by_cases h0 : len = 0
    · subst h0
      exact ⟨_, 0, cap, [], hcs, ⟨rfl, hl, hm, (fun h => by cases h), .inl rfl⟩, hlast⟩
    · obtain ⟨q0, g1, _, g3⟩ := each 0 (by omega)
      haveI : Inhabited (α × List Value) := ⟨q0⟩
      obtain ⟨q, hq⟩ := choose_lt each
      have g4 := g3 0 hpos
      obtain ⟨v0, hv0⟩ : ∃ v0, q0.2[0]? = some v0 := ⟨_, List.getElem?_eq_getElem (by omega)⟩
      rw [hv0] at g4
      obtain ⟨b, off, spot⟩ := ad
      have hspot : spot = none := by
        have := World.cell?_spot g4
        simp [Addr.add] at this
        exact this
      subst hspot
      simp only [add_none] at hq g4
      refine ⟨_, len, cap, (List.range len).map fun i => (q i).1, hcs, ⟨by simp, hl, hm, (fun h => by cases h), .inr ⟨b, off, rfl, ?_, fun i y hy => ?_⟩⟩, hlast⟩
      · by_cases hb : b < w.heap.size
        · exact hb
        · simp only [World.cell?] at g4
          rw [Array.getElem?_eq_none (show w.heap.size ≤ b by omega)] at g4
          simp at g4
      · have hi : i < len := by
          have := (List.getElem?_eq_some_iff.1 hy).1
          simpa using this
        obtain ⟨c1, c2, c3⟩ := hq i hi
        have hy' : y = (q i).1 := by
          simp [hi] at hy; exact hy.symm
        subst hy'
        refine ⟨(q i).2, c1, c2, fun j v hv => ?_⟩
        have hj : j < sz := by rw [← c1]; exact (List.getElem?_eq_some_iff.1 hv).1
        rw [c3 j hj]; exact hv
/-- A slice that came in, opened: each element by a reader of its cells, and of its sizes. -/
theorem open_tab_w {α : Type} {t e : TypeId} {sz : Nat} (ht : P.underlying t = some (.slice e)) (hsz : P.cellsOf e = sz) (hpos : 0 < sz) (R : List Value → α → Prop)
    (hR : ∀ n cs x, cs.length = sz → DataW.trod enc P w 0 (fun _ => true) true n e cs = some x → (∀ k ∈ x.1.weights P e, k ≤ reachBytes) → ∃ y, R cs y)
    {v : Value} {d : DataW H} {p : List MemPlace} (hv : Value.okWide P w .any base t v) (h : DataW.Trod enc P w 0 (fun _ => true) true t v d p) (hw : ∀ k ∈ d.weights P t, k ≤ reachBytes) :
    ∃ a len cap l, v = .slice a len cap ∧ TabR sz R w a len cap l ∧ len * P.bytesOf e ≤ reachBytes := by
  obtain ⟨a, len, cap, rfl⟩ := okWide_slice ht hv
  obtain ⟨fuel, hf⟩ := h
  obtain ⟨a', len', cap', l, e1, e2, e3⟩ := read_tab ht hsz hpos R (fun d => ∀ k ∈ d.weights P e, k ≤ reachBytes) hR fuel _ _ hf (fun elems spare hx d' hd k hk => hw k (by
    have hx : d = .slice elems spare := hx
    subst hx
    simp only [DataW.weights, ht, List.mem_cons, List.mem_append]
    exact .inr (.inl (weightsAll_mem hd k hk))))
  simp [Value.cells] at e1
  obtain ⟨rfl, rfl, rfl⟩ := e1
  refine ⟨a, len, cap, l, rfl, e2, ?_⟩
  rcases e3 with ⟨_, rfl⟩ | ⟨elems, spare, hx, rfl⟩
  · simp
  · have hx : d = .slice elems spare := hx
    subst hx
    have := hw ((elems.length + spare.length) * P.bytesOf e) (by simp [DataW.weights, ht])
    exact Nat.le_trans (Nat.mul_le_mul_right _ (by omega)) this

/-- A text that memory has room for. -/
def IsStrW (cs : List Value) (y : List UInt8) : Prop := cs = [.string (strOf y)] ∧ y.length ≤ 140737488351232
theorem read_strw {e : TypeId} (he : P.underlying e = some .string) :
    ∀ n cs x, cs.length = 1 → DataW.trod enc P w 0 (fun _ => true) true n e cs = some x → (∀ k ∈ x.1.weights P e, k ≤ reachBytes) → ∃ y, IsStrW cs y := by
  intro n cs x _ h hw
  obtain ⟨s, rfl, rfl, _⟩ := DataW.trod_string he h
  refine ⟨s.data.toList, rfl, ?_⟩
  have := hw s.data.toList.length (by simp [DataW.weights])
  simpa [reachBytes] using this
/-- A slice of texts that came in. -/
def StrsW (w : World) (a : Option Addr) (len cap : Nat) (l : List (List UInt8)) : Prop := Strs w a len cap l ∧ ∀ c ∈ l, c.length ≤ 140737488351232
theorem open_strs {t e : TypeId} (ht : P.underlying t = some (.slice e)) (he : P.underlying e = some .string) (hc : P.cellsOf e = 1)
    {v : Value} {d : DataW H} {p : List MemPlace} (hv : Value.okWide P w .any base t v) (h : DataW.Trod enc P w 0 (fun _ => true) true t v d p) (hw : ∀ k ∈ d.weights P t, k ≤ reachBytes) :
    ∃ a len cap l, v = .slice a len cap ∧ StrsW w a len cap l := by
  obtain ⟨a, len, cap, l, rfl, htab, _⟩ := open_tab_w ht hc (by decide) IsStrW (read_strw he) hv h hw
  refine ⟨a, len, cap, l, rfl, htab.mono (fun _ _ h => h.1), fun c hc => ?_⟩
  obtain ⟨i, hi⟩ := List.mem_iff_getElem?.1 hc
  have hil := (List.getElem?_eq_some_iff.1 hi).1
  obtain ⟨_, _, y, cs, _, _, hy, _, h5, _⟩ := htab.at (k := i) (by rw [← htab.1]; exact hil)
  rw [hi] at hy
  cases hy
  exact h5.2
theorem StrsW.sum {w : World} {a : Option Addr} {len cap : Nat} {l : List (List UInt8)} (h : StrsW w a len cap l) : lens l ≤ len * 140737488351232 := by
  have h1 := h.1.1
  have h2 := h.2
  clear h
  subst h1
  induction l with
  | nil => simp [lens]
  | cons c l ih =>
    have := ih (fun c hc => h2 c (by simp [hc]))
    have h3 := h2 c (by simp)
    simp only [lens, List.map_cons, List.sum_cons, List.length_cons, Nat.add_mul, Nat.one_mul] at this ⊢
    omega
end
end Go.Proofs.YtjdepdgoaopfoaaDoor
