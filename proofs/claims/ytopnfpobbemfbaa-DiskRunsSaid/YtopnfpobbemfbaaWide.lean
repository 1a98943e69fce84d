/- Wide values: structs and rows of symbolic cells, built. -/
import Derived.Test.YtopnfpobbemfbaaOwn2
import Derived.Deep.MidRow
import Derived.Deep.WholeRow
import Derived.Great.BuildSlice
namespace Go.Proofs.Ytopnfpobbemfbaa
open Go.RowKit

theorem fold_put (off : Nat) : ∀ (vs : List Value) (j : Nat) (cs : Array Value) (p m s : List Value), cs.toList = p ++ (m ++ s) → p.length = off + j → m.length = vs.length →
    ((vs.zipIdx j).foldl (fun (cs : Array Value) (x : Value × Nat) => cs.setIfInBounds (off + x.2) x.1) cs).toList = p ++ (vs ++ s)
  | [], j, cs, p, m, s, h, _, hm => by
    obtain rfl : m = [] := List.eq_nil_of_length_eq_zero (by simpa using hm)
    simpa using h
  | v :: vs, j, cs, p, m, s, h, hp, hm => by
    match m, hm with
    | c :: m, hm =>
      simp only [List.zipIdx_cons, List.foldl_cons]
      have ih := fold_put off vs (j + 1) (cs.setIfInBounds (off + j) v) (p ++ [v]) m s (by
        rw [Array.toList_setIfInBounds, h, List.set_append_right _ _ (by omega), hp, Nat.sub_self]
        simp) (by simp; omega) (by simpa using hm)
      rw [ih]
      simp
theorem fold_put' (off : Nat) (vs : Array Value) (cs : Array Value) (p m s : List Value) (h : cs.toList = p ++ (m ++ s)) (hp : p.length = off) (hm : m.length = vs.size) :
    vs.zipIdx.foldl (fun (cs : Array Value) (x : Value × Nat) => cs.setIfInBounds (off + x.2) x.1) cs = (p ++ (vs.toList ++ s)).toArray := by
  have := fold_put off vs.toList 0 cs p m s h hp (by simpa using hm)
  rw [← this, ← Array.foldl_toList, Array.toList_zipIdx]
/-- A struct of two fields out of both. -/
theorem fill_two (s0 s1 : Nat) (zero : Array Value) (x y : Value) (hz : zero.size = s0 + s1) (hx : x.cells.size = s0) (hy : y.cells.size = s1) (place : Nat → Option (Nat × Nat)) (p0 : place 0 = some (0, s0)) (p1 : place 1 = some (s0, s1)) :
    Instr.fill place zero [(0, x), (1, y)] = some (x.cells ++ y.cells) := by
  have e0 := fold_put' 0 x.cells zero [] (zero.toList.take s0) (zero.toList.drop s0) (by simp) rfl (by simp; omega)
  have e1 := fold_put' s0 y.cells (([] : List Value) ++ (x.cells.toList ++ zero.toList.drop s0)).toArray x.cells.toList (zero.toList.drop s0) [] (by simp) (by simpa using hx) (by simp; omega)
  simp only [Nat.zero_add] at e0
  simp only [Instr.fill, p0, p1]
  rw [if_neg (by simp; omega)]
  simp only [Nat.zero_add, e0]
  rw [if_neg (by simp [List.size_toArray]; omega)]
  rw [e1]
  simp only [List.append_nil]
  congr 1
  apply Array.ext'
  simp
/-- A row of one element out of it. -/
theorem fill_one (s0 : Nat) (zero : Array Value) (x : Value) (hz : zero.size = s0) (hx : x.cells.size = s0) (place : Nat → Option (Nat × Nat)) (p0 : place 0 = some (0, s0)) :
    Instr.fill place zero [(0, x)] = some x.cells := by
  have e0 := fold_put' 0 x.cells zero [] zero.toList [] (by simp) rfl (by simp; omega)
  simp only [Nat.zero_add] at e0
  simp only [Instr.fill, p0]
  rw [if_neg (by simp; omega)]
  simp only [Nat.zero_add, e0]
  simp
section
variable {P : Program} {w : World}
theorem run_build_two {t : TypeId} {f0 f1 : Field} {it : TypeInfo} {z : Value} {i0 i1 : TypeInfo} (hu : P.underlying t = some (.struct #[f0, f1])) (hit : P.info? t = some it) (hz : it.zero = some z)
    (h0 : P.info? f0.type = some i0) (h1 : P.info? f1.type = some i1) (o0 : f0.offset = 0) (o1 : f1.offset = i0.size) (hzs : z.cells.size = i0.size + i1.size) (x y : Value) (hx : x.cells.size = i0.size) (hy : y.cells.size = i1.size) :
    (Instr.build t #[(0, x), (1, y)]).run P w = .ok (.agg (x.cells ++ y.cells)) w := by
  refine run_build w t _ _ ?_
  unfold Program.built
  simp only [hit, hu, hz, List.mapM_cons, List.mapM_nil, h0, h1, Option.map_some, o0, o1]
  exact fill_two i0.size i1.size z.cells x y hzs hx hy _ rfl rfl
theorem run_buildSlice_one {t e : TypeId} {ie : TypeInfo} {z : Value} (hu : P.underlying t = some (.slice e)) (hie : P.info? e = some ie) (hz : ie.zero = some z) (_hzs : z.cells.size = ie.size) (hpos : 0 < ie.size) (hsmall : ie.size ≤ 16777216)
    (x : Value) (hx : x.cells.size = ie.size) : (Instr.buildSlice t 1 #[(0, x)]).run P w = .ok (.slice (some ⟨w.heap.size, 0, none⟩) 1 1) (w.alloc (.cells x.cells e)) := by
  refine run_buildSlice w t e 1 _ _ ie z hu hie hz (by omega) (by omega) ?_
  exact fill_one ie.size _ x (by simp) hx _ (by simp)
end
end Go.Proofs.Ytopnfpobbemfbaa
