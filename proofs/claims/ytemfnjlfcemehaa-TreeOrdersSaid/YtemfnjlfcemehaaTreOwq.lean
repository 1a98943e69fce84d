/- Rows of puts of the call's own. -/
import Derived.Test.YtemfnjlfcemehaaTreSuq
import Derived.Test.YtemfnjlfcemehaaTreOrq
import Derived.Test.YtemfnjlfcemehaaTreCqq
import Derived.Test.YtemfnjlfcemehaaM1
namespace Go.Proofs.Ytemfnjlfcemehaa
open Go.RowKit

/-- A row of puts of the call's own. -/
def OwnPts (B : Nat) (w : World) (v : Value) (q : List Pt) : Prop := w.ownsRow B 64 3 v q.length (q.flatMap ptC)
theorem info_P : RowInfo Try.prog 64 3 32 := row_info (by kernel_rfl)
theorem OwnPts.nil (B : Nat) (w : World) : OwnPts B w (.slice none 0 0) [] := own_nil w _ 3 B
theorem OwnPts.sl {B : Nat} {w : World} {v : Value} {q : List Pt} (h : OwnPts B w v q) :
    ∃ a c, v = .slice a q.length c ∧ Pts w a q.length c q ∧ q.length ≤ c ∧ c ≤ 9223372036854775807 ∧ (0 < q.length → ∃ g, a = some ⟨g, 0, none⟩ ∧ B ≤ g ∧ g < w.heap.size) := by
  obtain ⟨a, c, e, ht⟩ := TabR.of_own (R := IsPt) ptC (fun _ => rfl) (fun _ => rfl) h
  refine ⟨a, c, e, ht, ht.lens.2.1, ht.lens.2.2, fun h0 => ?_⟩
  subst e
  rcases h.2 with ⟨he, h1⟩ | ⟨g, cap, cur, he, hg, hh, _⟩
  · omega
  · cases he
    exact ⟨g, rfl, hg, (Array.getElem?_eq_some_iff.1 hh).1⟩
theorem OwnPts.agree {B : Nat} {w w' : World} {v : Value} {q : List Pt} {F : Nat → Prop} (h : OwnPts B w v q) (ha : AgreeF F w w') (hF : ∀ g, v.ownBlock = some g → F g) : OwnPts B w' v q := own_agree h ha hF
theorem OwnPts.below {B : Nat} {w w' : World} {v : Value} {q : List Pt} (h : OwnPts B w v q) (hb : Below w.heap.size w w') : OwnPts B w' v q := own_held h hb
theorem OwnPts.lt {B : Nat} {w : World} {v : Value} {q : List Pt} (h : OwnPts B w v q) (g : Nat) (hg : v.ownBlock = some g) : B ≤ g ∧ g < w.heap.size := by
  refine ⟨own_ge h g hg, ?_⟩
  rcases h.2 with ⟨rfl, _⟩ | ⟨g', cap, cur, rfl, _, hh, _⟩
  · cases hg
  · cases hg; exact (Array.getElem?_eq_some_iff.1 hh).1
theorem set_three {β : Type} {p s : List β} {n : Nat} (hp : p.length = n) (a0 a1 a2 b0 b1 b2 : β) :
    (((p ++ ([a0, a1, a2] ++ s)).set n b0).set (n + 1) b1).set (n + 2) b2 = p ++ ([b0, b1, b2] ++ s) := by
  subst hp
  simp
/-- One put written over. -/
theorem OwnPts.put {B g c : Nat} {w : World} {q : List Pt} {n : Nat} (hn : q.length = n) (h : OwnPts B w (.slice (some ⟨g, 0, none⟩) n c) q) {k : Nat} {x : Pt} (hx : q[k]? = some x) (y : Pt) :
    OwnPts B (((w.setCell ⟨g, k * 3, none⟩ (.string (strOf y.key))).setCell ⟨g, k * 3 + 1, none⟩ (.int .u8 (y.fill.toNat : Int))).setCell ⟨g, k * 3 + 2, none⟩ (.int .i64 y.size)) (.slice (some ⟨g, 0, none⟩) n c) (q.set k y) := by
  have hk := (List.getElem?_eq_some_iff.1 hx).1
  obtain ⟨p, s, hp, h1, h2⟩ := flat_parts ptC 3 (fun _ => rfl) hx
  have hk3 : k * 3 + 2 < q.length * 3 := by omega
  subst hn
  have h : w.ownsRow B 64 3 (.slice (some ⟨g, 0, none⟩) q.length c) q.length (q.flatMap ptC) := h
  have g0 := own_put h (k * 3) (.string (strOf y.key)) (by omega)
  have g1 := own_put g0 (k * 3 + 1) (.int .u8 (y.fill.toNat : Int)) (by omega)
  have g2 := own_put g1 (k * 3 + 2) (.int .i64 y.size) (by omega)
  unfold OwnPts
  rw [List.length_set, h2]
  rw [h1, show ptC x = [.string (strOf x.key), .int .u8 (x.fill.toNat : Int), .int .i64 x.size] from rfl, set_three hp] at g2
  exact g2
/-- What a store into it asks. -/
theorem OwnPts.free {B g c : Nat} {w : World} {q : List Pt} {n : Nat} (hn : q.length = n) (h : OwnPts B w (.slice (some ⟨g, 0, none⟩) n c) q) (j : Nat) : w.frozen? ⟨g, j, none⟩ = false := by
  unfold OwnPts at h
  rw [hn] at h
  exact h.frozenAt j
/-- One more put. -/
theorem OwnPts.app {B : Nat} {w : World} {v : Value} {q : List Pt} (h : OwnPts B w v q) (hB : B ≤ w.heap.size) (hl : q.length ≤ 10000) (y : Pt) :
    ∃ v' w', (Builtin.append_ #[58, 58] 58 #[v, .slice (some ⟨w.heap.size, 0, none⟩) 1 1]).run Try.prog (w.alloc (.cells #[.string (strOf y.key), .int .u8 (y.fill.toNat : Int), .int .i64 y.size] 64)) = .ok v' w' ∧ OwnPts B w' v' (q ++ [y]) ∧ w.grownBy w' v.ownBlock := by
  obtain ⟨i, z, i1, i2, i3, i4, i5⟩ := info_P
  obtain ⟨v', w', hr, ho, hg, hv⟩ := run_append_new (P := Try.prog) B 58 64 i z 3 32 Try.underlying58 i1 i2 i3 i4 i5 (by decide) h (ptC y).toArray rfl (by intro u hu; simp [ptC] at hu; rcases hu with rfl | rfl | rfl <;> rfl) (by unfold maxLen; omega) (by omega) hB
  refine ⟨v', w', hr, ?_, hg⟩
  unfold OwnPts
  rw [List.length_append, List.flatMap_append]
  exact ho
end Go.Proofs.Ytemfnjlfcemehaa
