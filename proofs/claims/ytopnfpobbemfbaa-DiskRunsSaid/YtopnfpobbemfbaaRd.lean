/- Slices, read: each element by a reader of its cells; texts, steps. -/
import Derived.Test.YtopnfpobbemfbaaDskNew
import Derived.ChangeArms
import Derived.OpenShut
namespace Go.Proofs.Ytopnfpobbemfbaa
open Go.RowKit Go.Deep Go.WideShapes Go.ChangeShapes

section
variable {H : Type} {enc : TypeId × Value → H} {P : Program} {w : World} {base : Nat}
/-- A slice's cell, read: each element by a reader of its cells and its datum. -/
theorem rd_tab {α : Type} {t e : TypeId} {sz : Nat} (ht : P.underlying t = some (.slice e)) (hsz : P.cellsOf e = sz) (hpos : 0 < sz) (R : List Value → α → Prop)
    (hR : ∀ n cs x, cs.length = sz → DataW.trod enc P w 0 (fun _ => true) true n e cs = some x → ∃ y, R cs y) :
    ∀ n cs x, DataW.trod enc P w 0 (fun _ => true) true n t cs = some x → ∃ a len cap l, cs = [.slice a len cap] ∧ TabR sz R w a len cap l := by
  intro fuel cs x hf
  rcases open_slice ht hf with ⟨hcs, rfl⟩ | ⟨ad, len, cap, m, n, D, Pl, hcs, _, hl, hm, hmm, rfl, hx⟩
  · exact ⟨none, 0, 0, [], hcs, ⟨rfl, Nat.le_refl _, by unfold maxLen; omega, fun _ => rfl, .inl rfl⟩⟩
  · have hlm : len ≤ m := by rw [hmm]; exact hl
    rw [hsz] at hx
    have each : ∀ i, i < len → ∃ q : α × List Value, q.2.length = sz ∧ R q.2 q.1 ∧ ∀ j, j < sz → w.cell? ((ad.add (i * sz)).add j) = q.2[j]? := by
      intro i hi
      obtain ⟨cs', h1, h2⟩ := hx i (by omega)
      obtain ⟨_, hlen, hcell⟩ := World.cells?_some h1
      obtain ⟨y, hy⟩ := hR n cs' _ hlen h2
      exact ⟨(y, cs'), hlen, hy, hcell⟩
    by_cases h0 : len = 0
    · subst h0
      exact ⟨_, 0, cap, [], hcs, ⟨rfl, hl, hm, (fun h => by cases h), .inl rfl⟩⟩
    · obtain ⟨q0, g1, _, g3⟩ := each 0 (by omega)
      haveI : Inhabited (α × List Value) := ⟨q0⟩
      obtain ⟨q, hq⟩ := choose_lt each
      have g4 := g3 0 hpos
      obtain ⟨v0, hv0⟩ : ∃ v0, q0.2[0]? = some v0 := ⟨_, List.getElem?_eq_getElem (by omega)⟩
      rw [hv0] at g4
      obtain ⟨b, off, spot⟩ := ad
      have hspot : spot = none := by
        have := World.cell?_spot g4
        simp [Addr.add] at this
        exact this
      subst hspot
      simp only [add_none] at hq g4
      refine ⟨_, len, cap, (List.range len).map fun i => (q i).1, hcs, ⟨by simp, hl, hm, (fun h => by cases h), .inr ⟨b, off, rfl, ?_, fun i y hy => ?_⟩⟩⟩
      · by_cases hb : b < w.heap.size
        · exact hb
        · simp only [World.cell?] at g4
          rw [Array.getElem?_eq_none (show w.heap.size ≤ b by omega)] at g4
          simp at g4
      · have hi : i < len := by
          have := (List.getElem?_eq_some_iff.1 hy).1
          simpa using this
        obtain ⟨c1, c2, c3⟩ := hq i hi
        have hy' : y = (q i).1 := by
          simp [hi] at hy; exact hy.symm
        subst hy'
        refine ⟨(q i).2, c1, c2, fun j v hv => ?_⟩
        have hj : j < sz := by rw [← c1]; exact (List.getElem?_eq_some_iff.1 hv).1
        rw [c3 j hj]; exact hv
theorem rd_tx {e : TypeId} (he : P.underlying e = some .string) : ∀ n cs x, cs.length = 1 → DataW.trod enc P w 0 (fun _ => true) true n e cs = some x → ∃ y, IsTx cs y := by
  intro n cs x _ h
  obtain ⟨s, e0, _, _⟩ := DataW.trod_string he h
  exact ⟨s.data.toList, by rw [e0]; rfl⟩
end

/-- A step. -/
structure Stp where
  kind : Int
  region : Int
  page : Int
  fill : UInt8
  short : Bool
  ka : Option Addr
  kl : Nat
  kc : Nat
  keep : List (List UInt8)
def scells (y : Stp) : List Value := [.int .i64 y.kind, .int .i64 y.region, .int .i64 y.page, .int .u8 (y.fill.toNat : Int), .bool y.short, .slice y.ka y.kl y.kc]
def IsStp (w : World) (cs : List Value) (y : Stp) : Prop := cs = scells y ∧ Txs w y.ka y.kl y.kc y.keep ∧ y.page ≤ 9223372036854775807
def Stps (w : World) (a : Option Addr) (len cap : Nat) (l : List Stp) : Prop := TabR 6 (IsStp w) w a len cap l
section
variable {H : Type} {enc : TypeId × Value → H} {P : Program} {w : World} {base : Nat}
theorem rd_step {t : TypeId} {f0 f1 f2 f3 f4 f5 : Field} {e : TypeId} (ht : P.underlying t = some (.struct #[f0, f1, f2, f3, f4, f5])) (o0 : f0.offset = 0) (o1 : f1.offset = 1) (o2 : f2.offset = 2) (o3 : f3.offset = 3) (o4 : f4.offset = 4) (o5 : f5.offset = 5)
    (c0 : P.cellsOf f0.type = 1) (c1 : P.cellsOf f1.type = 1) (c2 : P.cellsOf f2.type = 1) (c3 : P.cellsOf f3.type = 1) (c4 : P.cellsOf f4.type = 1) (c5 : P.cellsOf f5.type = 1)
    (u0 : P.underlying f0.type = some (.int .i64)) (u1 : P.underlying f1.type = some (.int .i64)) (u2 : P.underlying f2.type = some (.int .i64)) (u3 : P.underlying f3.type = some (.int .u8)) (u4 : P.underlying f4.type = some .bool) (u5 : P.underlying f5.type = some (.slice e)) (ue : P.underlying e = some .string) (ce : P.cellsOf e = 1) :
    ∀ n cs x, cs.length = 6 → DataW.trod enc P w 0 (fun _ => true) true n t cs = some x → ∃ y : Stp, IsStp w cs y := by
  intro n cs x hlen h
  obtain ⟨xs, k, _, _, _, hxl, hf⟩ := DataW.trod_struct ht h
  match xs, hxl, cs, hlen with
  | [y0, y1, y2, y3, y4, y5], _, [v0, v1, v2, v3, v4, v5], _ =>
    have g0 := hf 0 f0 rfl
    have g1 := hf 1 f1 rfl
    have g2 := hf 2 f2 rfl
    have g3 := hf 3 f3 rfl
    have g4 := hf 4 f4 rfl
    have g5 := hf 5 f5 rfl
    simp [o0, o1, o2, o3, o4, o5, c0, c1, c2, c3, c4, c5] at g0 g1 g2 g3 g4 g5
    obtain ⟨n0, e0, _, _⟩ := DataW.trod_int u0 g0
    obtain ⟨n1, e1, _, _⟩ := DataW.trod_int u1 g1
    obtain ⟨n2, e2, _, w2⟩ := DataW.trod_int u2 g2
    obtain ⟨n3, e3, _, w3⟩ := DataW.trod_int u3 g3
    obtain ⟨b4, e4, _⟩ := DataW.trod_bool u4 g4
    obtain ⟨a, len, cap, l, e5, ht5⟩ := rd_tab u5 ce (by decide) IsTx (rd_tx ue) _ _ _ g5
    simp at e0 e1 e2 e3 e4 e5
    simp [Lit.wf, IntKind.min, IntKind.max, IntKind.signed, IntKind.bits] at w2 w3
    refine ⟨⟨n0, n1, n2, UInt8.ofNat n3.toNat, b4, a, len, cap, l⟩, ?_, ht5, by show n2 ≤ _; omega⟩
    have : ((UInt8.ofNat n3.toNat).toNat : Int) = n3 := by
      simp [UInt8.toNat_ofNat']; omega
    rw [e0, e1, e2, e3, e4, e5]
    simp only [scells, this]
theorem open_steps_of {t e s : TypeId} {f0 f1 f2 f3 f4 f5 : Field} (ht : P.underlying t = some (.slice e)) (he : P.underlying e = some (.struct #[f0, f1, f2, f3, f4, f5])) (hc : P.cellsOf e = 6) (o0 : f0.offset = 0) (o1 : f1.offset = 1) (o2 : f2.offset = 2) (o3 : f3.offset = 3) (o4 : f4.offset = 4) (o5 : f5.offset = 5)
    (c0 : P.cellsOf f0.type = 1) (c1 : P.cellsOf f1.type = 1) (c2 : P.cellsOf f2.type = 1) (c3 : P.cellsOf f3.type = 1) (c4 : P.cellsOf f4.type = 1) (c5 : P.cellsOf f5.type = 1)
    (u0 : P.underlying f0.type = some (.int .i64)) (u1 : P.underlying f1.type = some (.int .i64)) (u2 : P.underlying f2.type = some (.int .i64)) (u3 : P.underlying f3.type = some (.int .u8)) (u4 : P.underlying f4.type = some .bool) (u5 : P.underlying f5.type = some (.slice s)) (us : P.underlying s = some .string) (cs : P.cellsOf s = 1)
    {v : Value} {d : DataW H} {p : List MemPlace} (hv : Value.okWide P w .any base t v) (h : DataW.Trod enc P w 0 (fun _ => true) true t v d p) :
    ∃ a len cap l, v = .slice a len cap ∧ Stps w a len cap l :=
  open_tab ht hc (by decide) (IsStp w) (rd_step he o0 o1 o2 o3 o4 o5 c0 c1 c2 c3 c4 c5 u0 u1 u2 u3 u4 u5 us cs) hv h
end
theorem open_steps {H : Type} {enc : TypeId × Value → H} {w : World} {base : Nat} {v : Value} {d : DataW H} {p : List MemPlace} (hv : Value.okWide Try.prog w .any base 42 v) (h : DataW.Trod enc Try.prog w 0 (fun _ => true) true 42 v d p) :
    ∃ a len cap l, v = .slice a len cap ∧ Stps w a len cap l :=
  open_steps_of Try.underlying42 Try.underlying33 (by kernel_rfl) rfl rfl rfl rfl rfl rfl (by kernel_rfl) (by kernel_rfl) (by kernel_rfl) (by kernel_rfl) (by kernel_rfl) (by kernel_rfl) Try.underlying3 Try.underlying3 Try.underlying3 Try.underlying5 Try.underlying4 Try.underlying31 Try.underlying9 (by kernel_rfl) hv h
theorem IsStp.below {B : Nat} {w w' : World} {cs : List Value} {y : Stp} (h : IsStp w cs y) (hB : w.heap.size ≤ B) (hb : Below B w w') : IsStp w' cs y := ⟨h.1, TabR.below hB hb h.2.1, h.2.2⟩
theorem Stps.below {w w' : World} {a : Option Addr} {len cap : Nat} {l : List Stp} {B : Nat} (h : Stps w a len cap l) (hB : w.heap.size ≤ B) (hb : Below B w w') : Stps w' a len cap l := (TabR.below hB hb h).mono fun _ _ hy => hy.below hB hb
end Go.Proofs.Ytopnfpobbemfbaa
