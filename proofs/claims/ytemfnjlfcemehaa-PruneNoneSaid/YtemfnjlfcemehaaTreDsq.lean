/- Keys deleted in whichever order; rows of keys of the call's own. -/
import Derived.Test.YtemfnjlfcemehaaTreWoq
import Derived.Test.YtemfnjlfcemehaaTreSuq
import Derived.Test.YtemfnjlfcemehaaM1
namespace Go.Proofs.Ytemfnjlfcemehaa
open Go.RowKit

theorem hits_length : ∀ {p : List (List UInt8)} {l : List (List UInt8 × Tv)}, Srt l → (delsL p l).length + hitsL p l = l.length
  | [], l, _ => by simp [delsL, hitsL]
  | k :: r, l, h => by
    have h1 := del_length (key := k) h
    have h2 := hits_length (p := r) (srt_del (key := k) h)
    simp only [delsL, hitsL]
    omega
theorem dels_same {p q : List (List UInt8)} {l : List (List UInt8 × Tv)} (h : Srt l) (hpq : ∀ k, k ∈ p ↔ k ∈ q) : delsL p l = delsL q l ∧ hitsL p l = hitsL q l := by
  have e : delsL p l = delsL q l := srt_ext (srt_dels h) (srt_dels h) (fun c => by rw [mem_dels, mem_dels, hpq])
  have h1 := hits_length (p := p) h
  have h2 := hits_length (p := q) h
  rw [← e] at h2
  exact ⟨e, by omega⟩
theorem dels_all {p : List (List UInt8)} {l : List (List UInt8 × Tv)} (h : Srt l) (ha : ∀ c ∈ l, c.1 ∈ p) : delsL p l = [] ∧ hitsL p l = l.length := by
  have e : delsL p l = [] := by
    rw [List.eq_nil_iff_forall_not_mem]
    intro c hc
    obtain ⟨h1, h2⟩ := (mem_dels c).1 hc
    exact h2 (ha c h1)
  have h1 := hits_length (p := p) h
  rw [e] at h1
  exact ⟨e, by simpa using h1⟩
/-- A row of keys of the call's own. -/
def OwnKs (B : Nat) (w : World) (v : Value) (q : List (List UInt8)) : Prop := w.ownsRow B 9 1 v q.length (q.flatMap fun y => [Value.string (strOf y)])
theorem info_K : RowInfo Try.prog 9 1 16 := row_info (by kernel_rfl)
theorem OwnKs.nil (B : Nat) (w : World) : OwnKs B w (.slice none 0 0) [] := own_nil w _ 1 B
theorem OwnKs.sl {B : Nat} {w : World} {v : Value} {q : List (List UInt8)} (h : OwnKs B w v q) :
    ∃ a c, v = .slice a q.length c ∧ KeysIn w a q.length c q ∧ q.length ≤ c ∧ c ≤ 9223372036854775807 ∧ (0 < q.length → ∃ g, a = some ⟨g, 0, none⟩ ∧ B ≤ g ∧ g < w.heap.size) := by
  obtain ⟨a, c, e, ht⟩ := TabR.of_own (R := IsKey) (fun y => [Value.string (strOf y)]) (fun _ => rfl) (fun _ => rfl) h
  refine ⟨a, c, e, ht, ht.lens.2.1, ht.lens.2.2, fun h0 => ?_⟩
  subst e
  rcases h.2 with ⟨he, h1⟩ | ⟨g, cap, cur, he, hg, hh, _⟩
  · omega
  · cases he
    exact ⟨g, rfl, hg, (Array.getElem?_eq_some_iff.1 hh).1⟩
theorem OwnKs.agree {B : Nat} {w w' : World} {v : Value} {q : List (List UInt8)} {F : Nat → Prop} (h : OwnKs B w v q) (ha : AgreeF F w w') (hF : ∀ g, v.ownBlock = some g → F g) : OwnKs B w' v q := own_agree h ha hF
theorem OwnKs.below {B : Nat} {w w' : World} {v : Value} {q : List (List UInt8)} (h : OwnKs B w v q) (hb : Below w.heap.size w w') : OwnKs B w' v q := own_held h hb
theorem OwnKs.lt {B : Nat} {w : World} {v : Value} {q : List (List UInt8)} (h : OwnKs B w v q) (g : Nat) (hg : v.ownBlock = some g) : B ≤ g ∧ g < w.heap.size := by
  refine ⟨own_ge h g hg, ?_⟩
  rcases h.2 with ⟨rfl, _⟩ | ⟨g', cap, cur, rfl, _, hh, _⟩
  · cases hg
  · cases hg; exact (Array.getElem?_eq_some_iff.1 hh).1
/-- One key written over. -/
theorem OwnKs.put {B g c : Nat} {w : World} {q : List (List UInt8)} {n : Nat} (hn : q.length = n) (h : OwnKs B w (.slice (some ⟨g, 0, none⟩) n c) q) {k : Nat} (hk : k < n) (y : List UInt8) :
    OwnKs B (w.setCell ⟨g, k, none⟩ (.string (strOf y))) (.slice (some ⟨g, 0, none⟩) n c) (q.set k y) := by
  subst hn
  have h : w.ownsRow B 9 1 (.slice (some ⟨g, 0, none⟩) q.length c) q.length (q.flatMap fun y => [Value.string (strOf y)]) := h
  have g0 := own_put h k (.string (strOf y)) (by omega)
  unfold OwnKs
  have e : ∀ l : List (List UInt8), (l.flatMap fun y => [Value.string (strOf y)]) = l.map fun y => Value.string (strOf y) := fun l => by
    induction l with
    | nil => rfl
    | cons a r ih => rw [List.flatMap_cons, ih]; rfl
  rw [e] at g0 ⊢
  rw [List.length_set, List.map_set]
  exact g0
theorem OwnKs.free {B g c : Nat} {w : World} {q : List (List UInt8)} {n : Nat} (hn : q.length = n) (h : OwnKs B w (.slice (some ⟨g, 0, none⟩) n c) q) (j : Nat) : w.frozen? ⟨g, j, none⟩ = false := by
  unfold OwnKs at h
  rw [hn] at h
  exact h.frozenAt j
/-- One more key. -/
theorem OwnKs.app {B : Nat} {w : World} {v : Value} {q : List (List UInt8)} (h : OwnKs B w v q) (hB : B ≤ w.heap.size) (hl : q.length ≤ 10000) (y : List UInt8) :
    ∃ v' w', (Builtin.append_ #[29, 29] 29 #[v, .slice (some ⟨w.heap.size, 0, none⟩) 1 1]).run Try.prog (w.alloc (.cells #[.string (strOf y)] 9)) = .ok v' w' ∧ OwnKs B w' v' (q ++ [y]) ∧ w.grownBy w' v.ownBlock := by
  obtain ⟨i, z, i1, i2, i3, i4, i5⟩ := info_K
  obtain ⟨v', w', hr, ho, hg, hv⟩ := run_append_new (P := Try.prog) B 29 9 i z 1 16 Try.underlying29 i1 i2 i3 i4 i5 (by decide) h #[.string (strOf y)] rfl (by intro u hu; simp at hu; subst hu; rfl) (by unfold maxLen; omega) (by omega) hB
  refine ⟨v', w', hr, ?_, hg⟩
  unfold OwnKs
  rw [List.length_append, List.flatMap_append]
  exact ho
end Go.Proofs.Ytemfnjlfcemehaa
