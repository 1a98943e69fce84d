/- Metas that came in, opened; two metas that may be have the same page, just if they are the same. -/
import Derived.Test.YtjdepdgoaopfoaaDoorMetL1
import Derived.ChangeArms
import Derived.OpenShut
namespace Go.Proofs.YtjdepdgoaopfoaaDoor
open Go.RowKit Go.WideShapes Go.ChangeShapes

def MtIn (m : Mt) : Prop := m.txn < 18446744073709551616
section
variable {H : Type} {enc : TypeId × Value → H} {P : Program} {w : World} {base : Nat}
theorem open_meta_of {t : TypeId} {f0 f1 f2 f3 f4 : Field} (ht : P.underlying t = some (.struct #[f0, f1, f2, f3, f4])) (o0 : f0.offset = 0) (o1 : f1.offset = 1) (o2 : f2.offset = 2) (o3 : f3.offset = 3) (o4 : f4.offset = 4)
    (c : P.cellsOf t = 5) (c0 : P.cellsOf f0.type = 1) (c1 : P.cellsOf f1.type = 1) (c2 : P.cellsOf f2.type = 1) (c3 : P.cellsOf f3.type = 1) (c4 : P.cellsOf f4.type = 1)
    (u0 : P.underlying f0.type = some (.int .i64)) (u1 : P.underlying f1.type = some (.int .u64)) (u2 : P.underlying f2.type = some (.int .i64)) (u3 : P.underlying f3.type = some (.int .i64)) (u4 : P.underlying f4.type = some (.int .i64))
    {v : Value} {d : DataW H} {p : List MemPlace} (hv : Value.okWide P w .any base t v) (h : DataW.Trod enc P w 0 (fun _ => true) true t v d p) :
    ∃ m : Mt, v = mv m ∧ MtIn m := by
  obtain ⟨cs, rfl, hsz⟩ := okWide_struct ht hv
  obtain ⟨fuel, hf0⟩ := h
  obtain ⟨cs⟩ := cs
  rw [c] at hsz
  simp [Value.cells] at hf0 hsz
  obtain ⟨xs, k, _, _, _, hxl, hf⟩ := DataW.trod_struct ht hf0
  match xs, hxl, cs, hsz with
  | [y0, y1, y2, y3, y4], _, [v0, v1, v2, v3, v4], _ =>
    have g0 := hf 0 f0 rfl
    have g1 := hf 1 f1 rfl
    have g2 := hf 2 f2 rfl
    have g3 := hf 3 f3 rfl
    have g4 := hf 4 f4 rfl
    simp [o0, o1, o2, o3, o4, c0, c1, c2, c3, c4] at g0 g1 g2 g3 g4
    obtain ⟨n0, e0, _, _⟩ := DataW.trod_int u0 g0
    obtain ⟨n1, e1, _, h1⟩ := DataW.trod_int u1 g1
    obtain ⟨n2, e2, _, _⟩ := DataW.trod_int u2 g2
    obtain ⟨n3, e3, _, _⟩ := DataW.trod_int u3 g3
    obtain ⟨n4, e4, _, _⟩ := DataW.trod_int u4 g4
    simp at e0 e1 e2 e3 e4
    have h1' : 0 ≤ n1 ∧ n1 ≤ 18446744073709551615 := by simpa [Lit.wf, IntKind.min, IntKind.max, IntKind.signed, IntKind.bits] using h1
    refine ⟨⟨n0, n1.toNat, n2, n3, n4⟩, ?_, ?_⟩
    · have : ((n1.toNat : Nat) : Int) = n1 := by omega
      rw [e0, e1, e2, e3, e4, mv, mcells, this]
    · show n1.toNat < 18446744073709551616
      omega
end

set_option maxRecDepth 100000 in
theorem open_meta {H : Type} {enc : TypeId × Value → H} {w : World} {base : Nat} {v : Value} {d : DataW H} {p : List MemPlace} (hv : Value.okWide Tryd.prog w .any base 24 v) (h : DataW.Trod enc Tryd.prog w 0 (fun _ => true) true 24 v d p) :
    ∃ m : Mt, v = mv m ∧ MtIn m :=
  open_meta_of Tryd.underlying24 rfl rfl rfl rfl rfl (by kernel_rfl) (by kernel_rfl) (by kernel_rfl) (by kernel_rfl) (by kernel_rfl) (by kernel_rfl) Tryd.underlying3 Tryd.underlying22 Tryd.underlying3 Tryd.underlying3 Tryd.underlying3 hv h

theorem msame (m n : Mt) (w : World) :
    (binOp .eql 24 (.agg #[.int .i64 m.label, .int .u64 m.txn, .int .i64 m.root, .int .i64 m.list, .int .i64 m.high]) (.agg #[.int .i64 n.label, .int .u64 n.txn, .int .i64 n.root, .int .i64 n.list, .int .i64 n.high])).run Tryd.prog w = .ok (.bool (decide (m = n))) w := by
  obtain ⟨a, b, c, d, e⟩ := m
  obtain ⟨a', b', c', d', e'⟩ := n
  by_cases h1 : a = a' <;> by_cases h2 : b = b' <;> by_cases h3 : c = c' <;> by_cases h4 : d = d' <;> by_cases h5 : e = e' <;> simp [go_sem, h1, h2, h3, h4, h5]
  omega

theorem put_same (m n : Mt) (o1 : metaOk m = true) (o2 : metaOk n = true) (h1 : MtIn m) (h2 : MtIn n) : (putV m == putV n) = decide (m = n) := by
  by_cases h : m = n
  · subst h; simp
  · have : putV m ≠ putV n := fun e => by
      rw [(putV_ok o1).1, (putV_ok o2).1] at e
      have g1 := (get_put m o1 h1).2
      have g2 := (get_put n o2 h2).2
      rw [e, g2] at g1
      exact h g1.symm
    simp [h, this]
end Go.Proofs.YtjdepdgoaopfoaaDoor
