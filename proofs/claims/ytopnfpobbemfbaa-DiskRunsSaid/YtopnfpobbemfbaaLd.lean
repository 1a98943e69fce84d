/- Wide values in a plain region: a load, and a store into a fresh block. -/
import Derived.Test.YtopnfpobbemfbaaDskS
namespace Go.Proofs.Ytopnfpobbemfbaa
open Go.RowKit

section
variable {P : Program} {w w' : World} {o : Oper} {a : Act} {K : Act → World → Prop} {Q : Exit → Act → World → Prop}
theorem wp_load_run (ty : TypeId) (x : Operand) (ho : o.op = .load ty x) {v r : Value} (hx : a.eval x = v) (hr : (Instr.loadAt ty v).run P w = .ok r w) (h : K (a.put o.dst r) w) : o.wp P a w K Q := by
  unfold Oper.wp execOp
  simp only [ho, Sem.run_bind, Sem.run_pure, Result.andThen_ok, hx, hr]
  exact h
theorem wp_store_run (ty : TypeId) (x y : Operand) (ho : o.op = .store ty x y) {p v : Value} (hx : a.eval x = p) (hy : a.eval y = v) (hr : (Instr.storeAt ty p v).run P w = .ok () w') (h : K (a.put o.dst undef) w') : o.wp P a w K Q := by
  unfold Oper.wp execOp
  simp only [ho, Sem.run_bind, Sem.run_pure, Result.andThen_ok, hx, hy, hr]
  exact h
end
theorem zero_write (w : World) : (zeroValue 78).run Try.prog w = .ok (.agg (wcells (0, zpage)).toArray) w := by kernel_rfl
theorem fresh_there (w : World) (cs : Array Value) (t : TypeId) : (w.alloc (.cells cs t)).there w.heap.size 0 cs.size := fun j hj => by
  have hh := World.alloc_heap_new w (.cells cs t)
  constructor
  · unfold World.cell?; dsimp only; rw [hh]; simp [hj]
  · unfold World.frozen?; dsimp only; rw [hh]; simp
theorem setCells_size (b : Nat) : ∀ (vs : List Value) (o : Nat) (w : World), (w.setCells b o vs).heap.size = w.heap.size
  | [], _, _ => rfl
  | v :: vs, o, w => by
    show ((w.setCell ⟨b, o, none⟩ v).setCells b (o + 1) vs).heap.size = _
    rw [setCells_size b vs]; simp [World.setCell]
theorem setCells_below {B : Nat} {a : World} (b : Nat) (hb : B ≤ b) : ∀ (vs : List Value) (o : Nat) {w : World}, Below B a w → Below B a (w.setCells b o vs)
  | [], _, _, h => h
  | v :: vs, o, w, h => by
    show Below B a ((w.setCell ⟨b, o, none⟩ v).setCells b (o + 1) vs)
    exact setCells_below b hb vs (o + 1) (h.setCell hb _)
/-- A fresh block is filled. -/
theorem fresh_fill {P : Program} (w : World) (ty : TypeId) (z cs : List Value) (hz : z.length = cs.length) (h1 : ∀ v ∈ cs, v.oneCell' = true) :
    ∃ w1, (storeCells ⟨w.heap.size, 0, none⟩ cs).run P (w.alloc (.cells z.toArray ty)) = .ok () w1 ∧ Below w.heap.size w w1 ∧ w.heap.size < w1.heap.size ∧ w1.rangeAt w.heap.size 0 cs ∧ ∀ j, w1.frozen? ⟨w.heap.size, j, none⟩ = false := by
  have ht := fresh_there w z.toArray ty
  rw [show z.toArray.size = cs.length by simpa using hz] at ht
  have hr := run_storeCells_cells (P := P) w.heap.size 0 cs 0 (w.alloc (.cells z.toArray ty)) (fun j hj => by simpa using (ht j hj).1) (fun j hj => by have := (ht j hj).2; rwa [Nat.zero_add] at this ⊢) h1
  refine ⟨_, hr, setCells_below _ (Nat.le_refl _) _ _ ((Below.refl _ _).alloc (Nat.le_refl _) _), by rw [setCells_size]; simp, World.rangeAt_setCells_same _ _ _ _ ht, fun j => ?_⟩
  rw [World.frozen?_setCells]
  unfold World.frozen?; dsimp only; rw [World.alloc_heap_new w (.cells z.toArray ty)]; simp
/-- A block that stands there is filled anew. -/
theorem fill_again {P : Program} {w : World} {g : Nat} (_ty : TypeId) (z cs : List Value) (hz : w.rangeAt g 0 z) (hf : ∀ j, w.frozen? ⟨g, j, none⟩ = false) (hl : z.length = cs.length) (h1 : ∀ v ∈ cs, v.oneCell' = true) {B : Nat} (hB : B ≤ g) :
    ∃ w1, (storeCells ⟨g, 0, none⟩ cs).run P w = .ok () w1 ∧ Below B w w1 ∧ w1.heap.size = w.heap.size ∧ w1.rangeAt g 0 cs ∧ ∀ j, w1.frozen? ⟨g, j, none⟩ = false := by
  have ht : w.there g 0 cs.length := fun j hj => by
    have hj' : j < z.length := by omega
    refine ⟨?_, by simpa using hf _⟩
    have := hz j z[j] (List.getElem?_eq_getElem hj')
    rw [this]; rfl
  have hr := run_storeCells_cells (P := P) g 0 cs 0 w (fun j hj => by simpa using (ht j hj).1) (fun j hj => by simpa using (ht j hj).2) h1
  refine ⟨_, hr, setCells_below _ hB _ _ (Below.refl _ _), by rw [setCells_size], World.rangeAt_setCells_same _ _ _ _ (by simpa using ht), fun j => ?_⟩
  rw [World.frozen?_setCells]; exact hf j
theorem rangeAt_below {B : Nat} {w w' : World} {g o : Nat} {cs : List Value} (h : w.rangeAt g o cs) (hb : Below B w w') (hg : g < B) : w'.rangeAt g o cs := fun j v hv => by
  rw [← h j v hv]; exact hb.cell (p := ⟨g, o + j, none⟩) hg
theorem own_step {w w' : World} {base : Nat} {e : TypeId} {size : Nat} {v : Value} {n : Nat} {xs : List Value} (h : w.ownsRow base e size v n xs) (hb : Below w.heap.size w w') : w'.ownsRow base e size v n xs :=
  own_only h (Only.of_below (S := []) hb) (fun _ _ => by simp)
theorem RegIn.lt {w : World} {fp : List Nat} {b M : Nat} {x : Rg} (h : RegIn w fp b M x) : ∀ k ∈ fp, k < w.heap.size := by
  obtain ⟨_, _, _, _, _, _, _, _, _, _, h8, _⟩ := h; exact h8
end Go.Proofs.Ytopnfpobbemfbaa
