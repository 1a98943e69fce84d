/- Nodes that came in, opened. -/
import Derived.Test.YtjdepdgoaopfoaaDoorNodC
import Derived.Test.YtjdepdgoaopfoaaDoorOpenS
import Derived.ChangeArms
import Derived.OpenShut
namespace Go.Proofs.YtjdepdgoaopfoaaDoor
open Go.RowKit Go.WideShapes Go.ChangeShapes

section
variable {H : Type} {enc : TypeId × Value → H} {P : Program} {w : World} {base : Nat}
theorem read_val {t : TypeId} {f0 f1 f2 f3 : Field} (ht : P.underlying t = some (.struct #[f0, f1, f2, f3])) (o0 : f0.offset = 0) (o1 : f1.offset = 1) (o2 : f2.offset = 2) (o3 : f3.offset = 3)
    (c0 : P.cellsOf f0.type = 1) (c1 : P.cellsOf f1.type = 1) (c2 : P.cellsOf f2.type = 1) (c3 : P.cellsOf f3.type = 1)
    (u0 : P.underlying f0.type = some .string) (u1 : P.underlying f1.type = some .bool) (u2 : P.underlying f2.type = some (.int .i64)) (u3 : P.underlying f3.type = some (.int .i64)) :
    ∀ n cs x, cs.length = 4 → DataW.trod enc P w 0 (fun _ => true) true n t cs = some x → ∃ y : Vv, cs = vcells y := by
  intro n cs x hlen h
  obtain ⟨xs, k, _, _, _, hxl, hf⟩ := DataW.trod_struct ht h
  match xs, hxl, cs, hlen with
  | [y0, y1, y2, y3], _, [v0, v1, v2, v3], _ =>
    have g0 := hf 0 f0 rfl
    have g1 := hf 1 f1 rfl
    have g2 := hf 2 f2 rfl
    have g3 := hf 3 f3 rfl
    simp [o0, o1, o2, o3, c0, c1, c2, c3] at g0 g1 g2 g3
    obtain ⟨s, e0, _, _⟩ := DataW.trod_string u0 g0
    obtain ⟨b, e1, _⟩ := DataW.trod_bool u1 g1
    obtain ⟨n2, e2, _, _⟩ := DataW.trod_int u2 g2
    obtain ⟨n3, e3, _, _⟩ := DataW.trod_int u3 g3
    simp at e0 e1 e2 e3
    exact ⟨⟨s.data.toList, b, n2, n3⟩, by rw [e0, e1, e2, e3]; rfl⟩
theorem read_entry {t : TypeId} {k0 k1 : Field} (ht : P.underlying t = some (.struct #[k0, k1])) (p0 : k0.offset = 0) (p1 : k1.offset = 1) (d0 : P.cellsOf k0.type = 1) (d1 : P.cellsOf k1.type = 4) (v0 : P.underlying k0.type = some .string)
    (hv : ∀ n cs x, cs.length = 4 → DataW.trod enc P w 0 (fun _ => true) true n k1.type cs = some x → ∃ y : Vv, cs = vcells y) :
    ∀ n cs x, cs.length = 5 → DataW.trod enc P w 0 (fun _ => true) true n t cs = some x → ∃ y, IsEn cs y := by
  intro n cs x hlen h
  obtain ⟨xs, k, _, _, _, hxl, hf⟩ := DataW.trod_struct ht h
  match xs, hxl, cs, hlen with
  | [y0, y1], _, [w0, w1, w2, w3, w4], _ =>
    have g0 := hf 0 k0 rfl
    have g1 := hf 1 k1 rfl
    simp [p0, p1, d0, d1] at g0 g1
    obtain ⟨s, e0, _, _⟩ := DataW.trod_string v0 g0
    obtain ⟨y, hy⟩ := hv _ _ _ rfl g1
    simp at e0
    exact ⟨⟨s.data.toList, y⟩, by rw [IsEn, ecells, e0, hy]; rfl⟩
theorem open_node_of {t : TypeId} {f0 f1 : Field} {e : TypeId} (ht : P.underlying t = some (.struct #[f0, f1])) (o0 : f0.offset = 0) (o1 : f1.offset = 1) (c : P.cellsOf t = 2) (c0 : P.cellsOf f0.type = 1) (c1 : P.cellsOf f1.type = 1)
    (u0 : P.underlying f0.type = some .bool) (u1 : P.underlying f1.type = some (.slice e)) (ce : P.cellsOf e = 5)
    (hR : ∀ n cs x, cs.length = 5 → DataW.trod enc P w 0 (fun _ => true) true n e cs = some x → ∃ y, IsEn cs y)
    {v : Value} {d : DataW H} {p : List MemPlace} (hv : Value.okWide P w .any base t v) (h : DataW.Trod enc P w 0 (fun _ => true) true t v d p) :
    ∃ leaf a len cap l, v = .agg #[.bool leaf, .slice a len cap] ∧ Ents w a len cap l := by
  obtain ⟨cs, rfl, hsz⟩ := okWide_struct ht hv
  obtain ⟨fuel, hf0⟩ := h
  obtain ⟨cs⟩ := cs
  rw [c] at hsz
  simp [Value.cells] at hf0 hsz
  obtain ⟨xs, k, _, _, _, hxl, hf⟩ := DataW.trod_struct ht hf0
  match xs, hxl, cs, hsz with
  | [y0, y1], _, [v0, v1], _ =>
    have g0 := hf 0 f0 rfl
    have g1 := hf 1 f1 rfl
    simp [o0, o1, c0, c1] at g0 g1
    obtain ⟨b, e0, _⟩ := DataW.trod_bool u0 g0
    simp at e0
    obtain ⟨a, len, cap, l, e1, htab, _⟩ := read_tab u1 ce (by decide) IsEn (fun _ => True) (fun n cs x h1 h2 _ => hR n cs x h1 h2) _ _ _ g1 (fun _ _ _ _ _ => trivial)
    simp at e1
    exact ⟨b, a, len, cap, l, by rw [e0, e1], htab⟩
end
set_option maxRecDepth 100000 in
theorem open_node {H : Type} {enc : TypeId × Value → H} {w : World} {base : Nat} {v : Value} {d : DataW H} {p : List MemPlace} (hv : Value.okWide Tryd.prog w .any base 52 v) (h : DataW.Trod enc Tryd.prog w 0 (fun _ => true) true 52 v d p) :
    ∃ leaf a len cap l, v = .agg #[.bool leaf, .slice a len cap] ∧ Ents w a len cap l :=
  open_node_of Tryd.underlying52 rfl rfl (by kernel_rfl) (by kernel_rfl) (by kernel_rfl) Tryd.underlying4 Tryd.underlying50 (by kernel_rfl)
    (read_entry Tryd.underlying76 rfl rfl (by kernel_rfl) (by kernel_rfl) Tryd.underlying9 (read_val Tryd.underlying74 rfl rfl rfl rfl (by kernel_rfl) (by kernel_rfl) (by kernel_rfl) (by kernel_rfl) Tryd.underlying9 Tryd.underlying4 Tryd.underlying3 Tryd.underlying3)) hv h
end Go.Proofs.YtjdepdgoaopfoaaDoor
