/- Two cursors beside each other. -/
import Derived.Test.YtemfnjlfcemehaaM15
namespace Go.Proofs.Ytemfnjlfcemehaa
open Go.RowKit

/-- Two cursors, and a row, that stand apart. -/
structure Two (N b1 b2 : Nat) (F : Nat → Prop) (w : World) (v1 v2 : Value) (R1 R2 : List (List UInt8 × Tv)) (a : Option Addr) (m : Nat) : Prop where
  c1 : Cur N (b1 + 1) b1 F w v1 R1
  c2 : Cur N (b2 + 1) b2 F w v2 R2
  lt : b1 < b2
  hF : ∀ x, F x → x < b1
  ap : ∀ g, v1.ownBlock = some g → g ≠ b2 ∧ v2.ownBlock ≠ some g
  row : Fa (fun x => (x ≠ b1 ∧ v1.ownBlock ≠ some x) ∧ (x ≠ b2 ∧ v2.ownBlock ≠ some x)) a m
section
variable {N b1 b2 : Nat} {F : Nat → Prop} {w : World} {v1 v2 : Value} {R1 R2 : List (List UInt8 × Tv)} {a : Option Addr} {m : Nat}
theorem Two.below {w' : World} (h : Two N b1 b2 F w v1 v2 R1 R2 a m) (hb : Below w.heap.size w w') : Two N b1 b2 F w' v1 v2 R1 R2 a m := ⟨h.c1.below hb, h.c2.below hb, h.lt, h.hF, h.ap, h.row⟩
/-- The second one is sought where the first one stands. -/
theorem Two.mk' {w' : World} (h1 : Cur N (b1 + 1) b1 F w v1 R1) (hF : ∀ x, F x → x < b1) (hb : Below w.heap.size w w') (h2 : Cur N (b2 + 1) b2 F w' v2 R2) (hle : w.heap.size ≤ b2) : Two N b1 b2 F w' v1 v2 R1 R2 none 0 :=
  ⟨h1.below hb, h2, by have := h1.lt9; omega, hF, fun g hg => by
    have := (h1.ge g hg).2
    exact ⟨by omega, fun e => by have := (h2.ge g e).1; omega⟩, Fa.zero _ _⟩
/-- A row that came later. -/
theorem Two.with (h : Two N b1 b2 F w v1 v2 R1 R2 none 0) (hf : Fa (fun x => w.heap.size ≤ x) a m) : Two N b1 b2 F w v1 v2 R1 R2 a m :=
  ⟨h.c1, h.c2, h.lt, h.hF, h.ap, hf.mono fun x hx => by
    have l1 := h.c1.lt9
    have l2 := h.c2.lt9
    exact ⟨⟨by omega, fun e => by have := (h.c1.ge x e).2; omega⟩, ⟨by omega, fun e => by have := (h.c2.ge x e).2; omega⟩⟩⟩
theorem Two.stay {B : Nat} {w' : World} {v1' : Value} (h : Two N b1 b2 F w v1 v2 R1 R2 a m) (hs : CurStay b1 v1 w w' v1') (hB : B ≤ b1) : Below B w w' := hs.toBelow hB (fun g hg => by have := (h.c1.ge g hg).1; omega) (by have := h.c1.lt9; omega)
theorem Two.stay2 {B : Nat} {w' : World} {v2' : Value} (h : Two N b1 b2 F w v1 v2 R1 R2 a m) (hs : CurStay b2 v2 w w' v2') (hB : B ≤ b2) : Below B w w' := hs.toBelow hB (fun g hg => by have := (h.c2.ge g hg).1; omega) (by have := h.c2.lt9; omega)
/-- The first one goes on. -/
theorem Two.stepA {w' : World} {v1' : Value} (h : Two N b1 b2 F w v1 v2 R1 R2 a m) (hr : Fa (fun x => x < w.heap.size) a m) (hc : Cur N (b1 + 1) b1 F w' v1' R1.tail) (hs : CurStay b1 v1 w w' v1') : Two N b1 b2 F w' v1' v2 R1.tail R2 a m := by
  have l2 := h.c2.lt9
  have hlt := h.lt
  refine ⟨hc, h.c2.agree ⟨hs.1.1, fun x hx hlt' => hs.1.2 x ?_ hlt'⟩, h.lt, h.hF, fun g hg => ?_, (h.row.and hr).mono fun x hx => ⟨⟨hx.1.1.1, fun e => ?_⟩, hx.1.2⟩⟩
  · rcases hx with hx | rfl | hx
    · exact ⟨by have := h.hF x hx; omega, fun e => by have := h.hF x hx; have := (h.c1.ge x e).1; omega⟩
    · exact ⟨by omega, fun e => (h.ap _ e).1 rfl⟩
    · exact ⟨by have := (h.c2.ge x hx).1; omega, fun e => (h.ap x e).2 hx⟩
  · rcases hs.2.1 with h9 | h9
    · rw [h9] at hg; exact h.ap g hg
    · have := h9 g hg
      exact ⟨by omega, fun e => by have := (h.c2.ge g e).2; omega⟩
  · rcases hs.2.1 with h9 | h9
    · rw [h9] at e; exact hx.1.1.2 e
    · have := h9 x e; have := hx.2; omega
/-- The second one goes on. -/
theorem Two.stepB {w' : World} {v2' : Value} (h : Two N b1 b2 F w v1 v2 R1 R2 a m) (hr : Fa (fun x => x < w.heap.size) a m) (hc : Cur N (b2 + 1) b2 F w' v2' R2.tail) (hs : CurStay b2 v2 w w' v2') : Two N b1 b2 F w' v1 v2' R1 R2.tail a m := by
  have l1 := h.c1.lt9
  have hlt := h.lt
  refine ⟨h.c1.agree ⟨hs.1.1, fun x hx hlt' => hs.1.2 x ?_ hlt'⟩, hc, h.lt, h.hF, fun g hg => ⟨(h.ap g hg).1, fun e => ?_⟩, (h.row.and hr).mono fun x hx => ⟨hx.1.1, hx.1.2.1, fun e => ?_⟩⟩
  · rcases hx with hx | rfl | hx
    · exact ⟨by have := h.hF x hx; omega, fun e => by have := h.hF x hx; have := (h.c2.ge x e).1; omega⟩
    · exact ⟨by omega, fun e => by have := (h.c2.ge _ e).1; omega⟩
    · exact ⟨(h.ap x hx).1, (h.ap x hx).2⟩
  · rcases hs.2.1 with h9 | h9
    · rw [h9] at e; exact (h.ap g hg).2 e
    · have := h9 g e; have := (h.c1.ge g hg).2; omega
  · rcases hs.2.1 with h9 | h9
    · rw [h9] at e; exact hx.1.2.2 e
    · have := h9 x e; have := hx.2; omega
end
/-- A row of truths. -/
def Bls (w : World) (a : Option Addr) (n c : Nat) (l : List Bool) : Prop := TabR 1 (fun cs (y : Bool) => cs = [.bool y]) w a n c l
theorem Bls.at {w : World} {a : Option Addr} {n c : Nat} {l : List Bool} (h : Bls w a n c l) {k : Nat} (hk : k < n) : ∃ b off y, a = some ⟨b, off, none⟩ ∧ b < w.heap.size ∧ l[k]? = some y ∧ w.cell? ⟨b, off + k, none⟩ = some (.bool y) := by
  obtain ⟨b, off, y, cs, e1, e2, e3, _, rfl, e6⟩ := TabR.at h hk
  refine ⟨b, off, y, e1, e2, e3, ?_⟩
  have := e6 0 _ rfl
  simpa using this
theorem tail_drop {α : Type} (l : List α) (i : Nat) : (l.drop i).tail = l.drop (i + 1) := by simp
theorem drop_at {α : Type} {l : List α} {i : Nat} {y : α} (h : l[i]? = some y) : l.drop i = y :: l.drop (i + 1) := by
  obtain ⟨h1, h2⟩ := List.getElem?_eq_some_iff.1 h
  rw [List.drop_eq_getElem_cons h1, h2]
theorem deep_some {N i : Nat} {E : List (List UInt8 × Tv)} (h : i < E.length) : deepC N (E.drop i) = N := by
  rw [drop_at (List.getElem?_eq_getElem h)]; rfl
theorem deep_none {N i : Nat} {E : List (List UInt8 × Tv)} (h : E.length ≤ i) : deepC N (E.drop i) = 0 := by
  rw [List.drop_of_length_le h]; rfl
end Go.Proofs.Ytemfnjlfcemehaa
