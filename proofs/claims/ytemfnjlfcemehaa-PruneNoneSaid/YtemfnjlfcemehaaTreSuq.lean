/- A tree in its box, put into in place: what the laws' rounds share. -/
import Derived.Test.YtemfnjlfcemehaaM9
namespace Go.Proofs.Ytemfnjlfcemehaa
open Go.RowKit

/-- A tree whose node lies in a box, and stands on some blocks. -/
def TrOn (G : Nat → Prop) (b : Nat) (wr : World) (N : Nat) (t : Tr) : Prop :=
  ∃ p lf a1 n1 c1 a2 n2 c2 a3 n3 c3, Boxes wr [(b, [.int .i64 p, .bool lf, .slice a1 n1 c1, .slice a2 n2 c2, .slice a3 n3 c3])] ∧ NodeOn G N wr [.int .i64 p, .bool lf, .slice a1 n1 c1, .slice a2 n2 c2, .slice a3 n3 c3] t ∧ Whole N t
theorem TrBox.on {B b : Nat} {wr : World} {N : Nat} {t : Tr} (h : TrBox B b wr N t) : TrOn (fun x => B ≤ x ∧ x < wr.heap.size) b wr N t := by
  obtain ⟨p, lf, a1, n1, c1, a2, n2, c2, a3, n3, c3, h1, h2, h3⟩ := h
  exact ⟨p, lf, a1, n1, c1, a2, n2, c2, a3, n3, c3, h1, h2.lt, h3⟩
theorem TrOn.below {G : Nat → Prop} {b : Nat} {w w' : World} {N : Nat} {t : Tr} (h : TrOn G b w N t) (hb : Below w.heap.size w w') : TrOn G b w' N t := by
  obtain ⟨p, lf, a1, n1, c1, a2, n2, c2, a3, n3, c3, h1, h2, h3⟩ := h
  exact ⟨p, lf, a1, n1, c1, a2, n2, c2, a3, n3, c3, h1.step hb, h2.below hb, h3⟩
theorem Boxes.agree {F : Nat → Prop} {w w' : World} {l : List (Nat × List Value)} (h : Boxes w l) (ha : AgreeF F w w') (hl : ∀ p ∈ l, F p.1) : Boxes w' l := fun p hp => by
  obtain ⟨t, ht⟩ := h p hp
  exact ⟨t, (ha.2 p.1 (hl p hp) (Array.getElem?_eq_some_iff.1 ht).1).trans ht⟩
theorem TrOn.agree {G F : Nat → Prop} {b : Nat} {w w' : World} {N : Nat} {t : Tr} (h : TrOn G b w N t) (ha : AgreeF F w w') (hG : ∀ x, G x → F x) (hb : F b) : TrOn G b w' N t := by
  obtain ⟨p, lf, a1, n1, c1, a2, n2, c2, a3, n3, c3, h1, h2, h3⟩ := h
  exact ⟨p, lf, a1, n1, c1, a2, n2, c2, a3, n3, c3, h1.agree ha (fun p hp => by simp at hp; subst hp; exact hb), h2.agree (ha.sub hG), h3⟩
theorem own_agree {w w' : World} {base : Nat} {e : TypeId} {size : Nat} {v : Value} {n : Nat} {xs : List Value} {F : Nat → Prop} (h : w.ownsRow base e size v n xs) (ha : AgreeF F w w') (hF : ∀ g, v.ownBlock = some g → F g) : w'.ownsRow base e size v n xs := by
  refine ⟨h.1, h.2.imp id fun ⟨g, cap, cur, e1, hg, hh, r⟩ => ⟨g, cap, cur, e1, hg, ?_, r⟩⟩
  subst e1
  rw [ha.2 g (hF g rfl) (Array.getElem?_eq_some_iff.1 hh).1]; exact hh
/-- What 'n = tree.Put(n, ..)' leaves. -/
def PutStay (B b : Nat) (w wr : World) (N : Nat) (T : Tr) (EP : List (List UInt8 × Tv)) (wx : World) : Prop :=
  ∃ M, TrBox B b wx M T ∧ M ≤ N + 1 ∧ entsT M T = EP ∧ AgreeF (fun x => x ≠ b) wr wx ∧ Below w.heap.size w wx
theorem PutStay.mk {B b : Nat} {w wr w9 : World} {N M : Nat} {T : Tr} {EP : List (List UInt8 × Tv)} {G : Nat → Prop} {x0 x1 x2 x3 x4 : Value} {p : Int} {lf : Bool} {a1 : Option Addr} {n1 c1 : Nat} {a2 : Option Addr} {n2 c2 : Nat} {a3 : Option Addr} {n3 c3 : Nat} (hx : Boxes w9 [(b, [x0, x1, x2, x3, x4])])
    (h : NodeOn G M w9 [.int .i64 p, .bool lf, .slice a1 n1 c1, .slice a2 n2 c2, .slice a3 n3 c3] T) (hG : ∀ x, G x → B ≤ x) (hb : b < B) (hw : Whole M T) (hM : M ≤ N + 1) (hE : entsT M T = EP) (hA : AgreeF (fun x => x ≠ b) wr w9) (hB : Below w.heap.size w w9) (hle : w.heap.size ≤ b) :
    PutStay B b w wr N T EP (set5 w9 b (.int .i64 p) (.bool lf) (.slice a1 n1 c1) (.slice a2 n2 c2) (.slice a3 n3 c3)) :=
  ⟨M, TrBox.set5 hx h hG (fun h => by have := hG _ h; omega) hw, hM, hE, hA.trans (agree_set5 (by simp) _ _ _ _ _), set5_below hB hle _ _ _ _ _⟩
end Go.Proofs.Ytemfnjlfcemehaa
