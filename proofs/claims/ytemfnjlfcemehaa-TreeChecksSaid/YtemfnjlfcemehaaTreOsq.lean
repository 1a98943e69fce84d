/- What came in, opened: a spoiling (a struct of bytes, a kind, a place, a key). -/
import Derived.Test.YtemfnjlfcemehaaTreOqq
namespace Go.Proofs.Ytemfnjlfcemehaa
open Go.RowKit Go.Deep Go.WideShapes Go.ChangeShapes

/-- What is told of a spoiling. -/
structure Spo where
  way : List UInt8
  kind : Int
  at_ : Nat
  key : List UInt8
def SpoIn (w : World) (wa : Option Addr) (wn wk : Nat) (s : Spo) : Prop := Bs w wa wn wk s.way ∧ s.at_ < 256
section
variable {H : Type} {enc : TypeId × Value → H} {P : Program} {w : World} {base : Nat}
/-- A slice's cell, read: each element by a reader of its cells and its datum. -/
theorem rd_tabT {α : Type} {t e : TypeId} {sz : Nat} (ht : P.underlying t = some (.slice e)) (hsz : P.cellsOf e = sz) (hpos : 0 < sz) (R : List Value → α → Prop)
    (hR : ∀ n cs x, cs.length = sz → DataW.trod enc P w 0 (fun _ => true) true n e cs = some x → ∃ y, R cs y) :
    ∀ n cs x, DataW.trod enc P w 0 (fun _ => true) true n t cs = some x → ∃ a len cap l, cs = [.slice a len cap] ∧ TabR sz R w a len cap l := by
  intro fuel cs x hf
  rcases open_slice ht hf with ⟨hcs, rfl⟩ | ⟨ad, len, cap, m, n, D, Pl, hcs, _, hl, hm, hmm, rfl, hx⟩
  · exact ⟨none, 0, 0, [], hcs, ⟨rfl, Nat.le_refl _, by unfold maxLen; omega, fun _ => rfl, .inl rfl⟩⟩
  · have hlm : len ≤ m := by rw [hmm]; exact hl
    rw [hsz] at hx
    have each : ∀ i, i < len → ∃ q : α × List Value, q.2.length = sz ∧ R q.2 q.1 ∧ ∀ j, j < sz → w.cell? ((ad.add (i * sz)).add j) = q.2[j]? := by
      intro i hi
      obtain ⟨cs', h1, h2⟩ := hx i (by omega)
      obtain ⟨_, hlen, hcell⟩ := World.cells?_some h1
      obtain ⟨y, hy⟩ := hR n cs' _ hlen h2
      exact ⟨(y, cs'), hlen, hy, hcell⟩
    by_cases h0 : len = 0
    · subst h0
      exact ⟨_, 0, cap, [], hcs, ⟨rfl, hl, hm, (fun h => by cases h), .inl rfl⟩⟩
    · obtain ⟨q0, g1, _, g3⟩ := each 0 (by omega)
      haveI : Inhabited (α × List Value) := ⟨q0⟩
      obtain ⟨q, hq⟩ := choose_lt each
      have g4 := g3 0 hpos
      obtain ⟨v0, hv0⟩ : ∃ v0, q0.2[0]? = some v0 := ⟨_, List.getElem?_eq_getElem (by omega)⟩
      rw [hv0] at g4
      obtain ⟨b, off, spot⟩ := ad
      have hspot : spot = none := by
        have := World.cell?_spot g4
        simp [Addr.add] at this
        exact this
      subst hspot
      simp only [add_none] at hq g4
      refine ⟨_, len, cap, (List.range len).map fun i => (q i).1, hcs, ⟨by simp, hl, hm, (fun h => by cases h), .inr ⟨b, off, rfl, ?_, fun i y hy => ?_⟩⟩⟩
      · by_cases hb : b < w.heap.size
        · exact hb
        · simp only [World.cell?] at g4
          rw [Array.getElem?_eq_none (show w.heap.size ≤ b by omega)] at g4
          simp at g4
      · have hi : i < len := by
          have := (List.getElem?_eq_some_iff.1 hy).1
          simpa using this
        obtain ⟨c1, c2, c3⟩ := hq i hi
        have hy' : y = (q i).1 := by
          simp [hi] at hy; exact hy.symm
        subst hy'
        refine ⟨(q i).2, c1, c2, fun j v hv => ?_⟩
        have hj : j < sz := by rw [← c1]; exact (List.getElem?_eq_some_iff.1 hv).1
        rw [c3 j hj]; exact hv
theorem rd_by {e : TypeId} (he : P.underlying e = some (.int .u8)) : ∀ n cs x, cs.length = 1 → DataW.trod enc P w 0 (fun _ => true) true n e cs = some x → ∃ y : UInt8, cs = [.int .u8 (y.toNat : Int)] := by
  intro n cs x _ h
  obtain ⟨n0, e0, _, h0⟩ := DataW.trod_int he h
  have h1 : 0 ≤ n0 ∧ n0 ≤ 255 := by simpa [Lit.wf, IntKind.min, IntKind.max, IntKind.signed, IntKind.bits] using h0
  refine ⟨UInt8.ofNat n0.toNat, ?_⟩
  rw [e0]
  have : ((UInt8.ofNat n0.toNat).toNat : Int) = n0 := by
    rw [UInt8.toNat_ofNat']
    omega
  rw [this]
theorem bs_of_tab {a : Option Addr} {len cap : Nat} {l : List UInt8} (h : TabR 1 (fun cs (y : UInt8) => cs = [.int .u8 (y.toNat : Int)]) w a len cap l) : Bs w a len cap l := by
  obtain ⟨h1, h2, h3, h4, h5⟩ := h
  refine ⟨by simpa [toI] using h1, h2, h3, h4, ?_⟩
  rcases h5 with h5 | ⟨b, off, e, hb, hc⟩
  · exact .inl h5
  · refine .inr ⟨b, off, e, hb, fun i hi => ?_⟩
    have hil : i < l.length := by omega
    obtain ⟨cs, _, c2, c3⟩ := hc i l[i] (List.getElem?_eq_getElem hil)
    subst c2
    have := c3 0 _ rfl
    simpa [toI, hil] using this
theorem open_spo {t : TypeId} {f0 f1 f2 f3 : Field} {tb : TypeId} (ht : P.underlying t = some (.struct #[f0, f1, f2, f3])) (o0 : f0.offset = 0) (o1 : f1.offset = 1) (o2 : f2.offset = 2) (o3 : f3.offset = 3)
    (c : P.cellsOf t = 4) (c0 : P.cellsOf f0.type = 1) (c1 : P.cellsOf f1.type = 1) (c2 : P.cellsOf f2.type = 1) (c3 : P.cellsOf f3.type = 1)
    (u0 : P.underlying f0.type = some (.slice tb)) (ub : P.underlying tb = some (.int .u8)) (cb : P.cellsOf tb = 1) (u1 : P.underlying f1.type = some (.int .i64)) (u2 : P.underlying f2.type = some (.int .u8)) (u3 : P.underlying f3.type = some .string)
    {v : Value} {d : DataW H} {p : List MemPlace} (hv : Value.okWide P w .any base t v) (h : DataW.Trod enc P w 0 (fun _ => true) true t v d p) :
    ∃ wa wn wk s, v = .agg #[.slice wa wn wk, .int .i64 s.kind, .int .u8 (s.at_ : Int), .string (strOf s.key)] ∧ SpoIn w wa wn wk s := by
  obtain ⟨cs, rfl, hsz⟩ := okWide_struct ht hv
  obtain ⟨fuel, hf0⟩ := h
  obtain ⟨cs⟩ := cs
  rw [c] at hsz
  simp [Value.cells] at hf0 hsz
  obtain ⟨xs, k, _, _, _, hxl, hf⟩ := DataW.trod_struct ht hf0
  match xs, hxl, cs, hsz with
  | [y0, y1, y2, y3], _, [v0, v1, v2, v3], _ =>
    have g0 := hf 0 f0 rfl
    have g1 := hf 1 f1 rfl
    have g2 := hf 2 f2 rfl
    have g3 := hf 3 f3 rfl
    simp [o0, o1, o2, o3, c0, c1, c2, c3] at g0 g1 g2 g3
    obtain ⟨a, len, cap, l, e0, h0⟩ := rd_tabT u0 cb (by decide) (fun cs (y : UInt8) => cs = [.int .u8 (y.toNat : Int)]) (rd_by ub) _ _ _ g0
    obtain ⟨n1, e1, _, _⟩ := DataW.trod_int u1 g1
    obtain ⟨n2, e2, _, h2⟩ := DataW.trod_int u2 g2
    obtain ⟨s3, e3, _, _⟩ := DataW.trod_string u3 g3
    simp at e0 e1 e2 e3
    have h2' : 0 ≤ n2 ∧ n2 ≤ 255 := by simpa [Lit.wf, IntKind.min, IntKind.max, IntKind.signed, IntKind.bits] using h2
    refine ⟨a, len, cap, ⟨l, n1, n2.toNat, s3.data.toList⟩, ?_, bs_of_tab h0, by show n2.toNat < 256; omega⟩
    have : ((n2.toNat : Nat) : Int) = n2 := by omega
    rw [e0, e1, e2, e3]
    show _ = Value.agg #[_, _, .int .u8 ((n2.toNat : Nat) : Int), .string (strOf s3.data.toList)]
    rw [this]; rfl
end
end Go.Proofs.Ytemfnjlfcemehaa
