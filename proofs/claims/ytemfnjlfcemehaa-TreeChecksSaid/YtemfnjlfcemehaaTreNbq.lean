/- A node that is built in a box, beside other boxes. -/
import Derived.Test.YtemfnjlfcemehaaTreNiq
import Derived.Test.YtemfnjlfcemehaaM10
import Derived.Test.YtemfnjlfcemehaaM9
import Derived.Deep.QuietTactic
import Derived.BigQuiet
import Derived.Deep.RegionHeld3
namespace Go.Proofs.Ytemfnjlfcemehaa
open Go.RowKit

/-- A node that is built in box b, beside other boxes, its rows on blocks from B on. -/
structure NdAt (F : Nat → Prop) (n : Nat) (w : World) (b B : Nat) (X : List (Nat × List Value)) (p : Int) (lf : Bool) (v1 v2 v3 : Value) (K : List (List UInt8)) (V : List Tv) (C : List Tr) (wr : World) : Prop where
  bx : Boxes wr ((b, [.int .i64 p, .bool lf, v1, v2, v3]) :: X)
  rows : NodeRows 9 100 33 F n B wr v1 v2 v3 K V C
  bel : Below w.heap.size w wr
/-- Where the boxes lie. -/
def Lay (F : Nat → Prop) (w : World) (b B : Nat) (X : List (Nat × List Value)) : Prop := w.heap.size ≤ b ∧ b < B ∧ (∀ p ∈ X, p.1 < B ∧ p.1 ≠ b) ∧ ∀ x, F x → x < w.heap.size
section
variable {F : Nat → Prop} {n : Nat} {w wr : World} {b B : Nat} {X : List (Nat × List Value)} {p : Int} {lf : Bool} {v1 v2 v3 : Value} {K : List (List UInt8)} {V : List Tv} {C : List Tr}
theorem NdAt.below {w' : World} (h : NdAt F n w b B X p lf v1 v2 v3 K V C wr) (hb : Below wr.heap.size wr w') : NdAt F n w b B X p lf v1 v2 v3 K V C w' :=
  ⟨h.bx.step hb, h.rows.below hb, h.bel.trans (hb.mono h.bel.size)⟩
theorem NdAt.pushK (n : Nat) (hL : Lay F w b B X) (h : NdAt F n w b B X p lf v1 v2 v3 K V C wr) (hB : B ≤ wr.heap.size) (hl : K.length ≤ 1000) (key : List UInt8) :
    ∃ a c w', (Builtin.append_ #[29, 29] 29 #[v1, .slice (some ⟨wr.heap.size, 0, none⟩) 1 1]).run Try.prog (wr.alloc (.cells #[.string (strOf key)] 9)) = .ok (.slice a (K.length + 1) c) w' ∧ AgreeF (fun x => v1.ownBlock ≠ some x ∧ x ≠ b) wr w' ∧
      w'.cell? ⟨b, 2, none⟩ = some v1 ∧ w'.frozen? ⟨b, 2, none⟩ = false ∧
      AgreeF (fun x => v1.ownBlock ≠ some x ∧ x ≠ b) wr (w'.setCell ⟨b, 2, none⟩ (.slice a (K.length + 1) c)) ∧ NdAt F n w b B X p lf (.slice a (K.length + 1) c) v2 v3 (K ++ [key]) V C (w'.setCell ⟨b, 2, none⟩ (.slice a (K.length + 1) c)) := by
  obtain ⟨l1, l2, l3, l4⟩ := hL
  obtain ⟨hx, hr, hb⟩ := h
  obtain ⟨v', w', hrun, hg, ht, hn⟩ := hr.pushK (P := Try.prog) Try.underlying29 info_sK (by decide) hB (by omega) key
  obtain ⟨a, c, _, _, _, _, rfl, _, _⟩ := hn.sl
  rw [List.length_append] at *
  have hag : AgreeF (fun x => v1.ownBlock ≠ some x ∧ x ≠ b) wr w' := ⟨hg.size, fun x hx hlt => hg.block x hlt (fun e => hx.1 e.symm)⟩
  have hge : ∀ g, v1.ownBlock = some g → B ≤ g := fun g hg => (hr.k.lt hg).1
  have hx' := hx.grown hg (by
    intro q hq e
    have := hge _ e
    rcases List.mem_cons.1 hq with rfl | hq
    · have : B ≤ b := this; omega
    · have := (l3 q hq).1; omega)
  refine ⟨a, c, w', hrun, hag, hx'.cell 0 2 rfl rfl, hx'.frozen 0 2 rfl, AgreeF.set hag (.inl fun h => h.2 rfl), hx'.put 2 _ (fun q hq => (l3 q hq).2), hn.set l2 (fun hf => by have := l4 _ hf; simp at this; omega), (hb.grown hg hb.size (fun g hg => by have := hge g hg; omega)).setCell l1 _⟩
theorem NdAt.pushV (n : Nat) (hL : Lay F w b B X) (h : NdAt F n w b B X p lf v1 v2 v3 K V C wr) (hB : B ≤ wr.heap.size) (hl : V.length ≤ 1000) {d a9 : Value} {tv : Tv} (hy : TvOn (G3 F B v1 v2 v3) wr [d, a9] tv) :
    ∃ a c w', (Builtin.append_ #[30, 30] 30 #[v2, .slice (some ⟨wr.heap.size, 0, none⟩) 1 1]).run Try.prog (wr.alloc (.cells #[d, a9] 100)) = .ok (.slice a (V.length + 1) c) w' ∧ AgreeF (fun x => v2.ownBlock ≠ some x ∧ x ≠ b) wr w' ∧
      w'.cell? ⟨b, 3, none⟩ = some v2 ∧ w'.frozen? ⟨b, 3, none⟩ = false ∧
      AgreeF (fun x => v2.ownBlock ≠ some x ∧ x ≠ b) wr (w'.setCell ⟨b, 3, none⟩ (.slice a (V.length + 1) c)) ∧ NdAt F n w b B X p lf v1 (.slice a (V.length + 1) c) v3 K (V ++ [tv]) C (w'.setCell ⟨b, 3, none⟩ (.slice a (V.length + 1) c)) := by
  obtain ⟨l1, l2, l3, l4⟩ := hL
  obtain ⟨hx, hr, hb⟩ := h
  obtain ⟨v', w', hrun, hg, ht, hn⟩ := hr.pushV (P := Try.prog) Try.underlying30 info_vK (by decide) hB (by omega) hy
  obtain ⟨_, _, a, c, _, _, _, rfl, _⟩ := hn.sl
  rw [List.length_append] at *
  have hag : AgreeF (fun x => v2.ownBlock ≠ some x ∧ x ≠ b) wr w' := ⟨hg.size, fun x hx hlt => hg.block x hlt (fun e => hx.1 e.symm)⟩
  have hge : ∀ g, v2.ownBlock = some g → B ≤ g := fun g hg => (hr.v.lt hg).1
  have hx' := hx.grown hg (by
    intro q hq e
    have := hge _ e
    rcases List.mem_cons.1 hq with rfl | hq
    · have : B ≤ b := this; omega
    · have := (l3 q hq).1; omega)
  refine ⟨a, c, w', hrun, hag, hx'.cell 0 3 rfl rfl, hx'.frozen 0 3 rfl, AgreeF.set hag (.inl fun h => h.2 rfl), hx'.put 3 _ (fun q hq => (l3 q hq).2), hn.set l2 (fun hf => by have := l4 _ hf; simp at this; omega), (hb.grown hg hb.size (fun g hg => by have := hge g hg; omega)).setCell l1 _⟩
theorem NdAt.pushC (n : Nat) (hL : Lay F w b B X) (h : NdAt F n w b B X p lf v1 v2 v3 K V C wr) (hB : B ≤ wr.heap.size) (hl : C.length ≤ 1000) {x0 x1 x2 x3 x4 : Value} {kid : Tr} (hy : NodeOn (G3 F B v1 v2 v3) n wr [x0, x1, x2, x3, x4] kid) :
    ∃ a c w', (Builtin.append_ #[31, 31] 31 #[v3, .slice (some ⟨wr.heap.size, 0, none⟩) 1 1]).run Try.prog (wr.alloc (.cells #[x0, x1, x2, x3, x4] 33)) = .ok (.slice a (C.length + 1) c) w' ∧ AgreeF (fun x => v3.ownBlock ≠ some x ∧ x ≠ b) wr w' ∧
      w'.cell? ⟨b, 4, none⟩ = some v3 ∧ w'.frozen? ⟨b, 4, none⟩ = false ∧
      AgreeF (fun x => v3.ownBlock ≠ some x ∧ x ≠ b) wr (w'.setCell ⟨b, 4, none⟩ (.slice a (C.length + 1) c)) ∧ NdAt F n w b B X p lf v1 v2 (.slice a (C.length + 1) c) K V (C ++ [kid]) (w'.setCell ⟨b, 4, none⟩ (.slice a (C.length + 1) c)) := by
  obtain ⟨l1, l2, l3, l4⟩ := hL
  obtain ⟨hx, hr, hb⟩ := h
  obtain ⟨v', w', hrun, hg, ht, hn⟩ := hr.pushC (P := Try.prog) Try.underlying31 info_nK (by decide) hB (by omega) hy
  obtain ⟨_, _, _, _, a, c, _, _, rfl⟩ := hn.sl
  rw [List.length_append] at *
  have hag : AgreeF (fun x => v3.ownBlock ≠ some x ∧ x ≠ b) wr w' := ⟨hg.size, fun x hx hlt => hg.block x hlt (fun e => hx.1 e.symm)⟩
  have hge : ∀ g, v3.ownBlock = some g → B ≤ g := fun g hg => (hr.c.lt hg).1
  have hx' := hx.grown hg (by
    intro q hq e
    have := hge _ e
    rcases List.mem_cons.1 hq with rfl | hq
    · have : B ≤ b := this; omega
    · have := (l3 q hq).1; omega)
  refine ⟨a, c, w', hrun, hag, hx'.cell 0 4 rfl rfl, hx'.frozen 0 4 rfl, AgreeF.set hag (.inl fun h => h.2 rfl), hx'.put 4 _ (fun q hq => (l3 q hq).2), hn.set l2 (fun hf => by have := l4 _ hf; simp at this; omega), (hb.grown hg hb.size (fun g hg => by have := hge g hg; omega)).setCell l1 _⟩
end
end Go.Proofs.Ytemfnjlfcemehaa
