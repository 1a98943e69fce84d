/- The document's tree that a call answers, laid into a new box. -/
import Derived.Test.YtemfnjlfcemehaaM13
import Derived.Test.YtemfnjlfcemehaaTreWyq
namespace Go.Proofs.Ytemfnjlfcemehaa
open Go.RowKit

/-- What a drawn 'y, was := jalousieref16.Delete(..)' leaves. -/
def RMid (B : Nat) (w2 : World) (M : Nat) (T : Tr) (s8 : Value) (wx : World) : Prop :=
  ∃ b8, s8 = .pointer (some ⟨b8, 0, none⟩) ∧ RBox B b8 wx M T ∧ Below w2.heap.size w2 wx ∧ w2.heap.size ≤ b8
theorem RMid.a {B : Nat} {w2 w9 : World} {M : Nat} {T : Tr} {G : Nat → Prop} {p : Int} {l : Bool} {a : Option Addr} {m d : Nat} (ty : TypeId) (hB : Below w2.heap.size w2 w9) (h : RNodeOn G M w9 [.int .i64 p, .bool l, .slice a m d] T) (hG : ∀ b, G b → B ≤ b) :
    RMid B w2 M T (.pointer (some ⟨w9.heap.size, 0, none⟩)) (w9.alloc (.cells #[.int .i64 p, .bool l, .slice a m d] ty)) :=
  ⟨_, rfl, ⟨p, l, a, m, d, (Boxes.nil w9).alloc #[.int .i64 p, .bool l, .slice a m d] ty rfl, (h.below (Below.al (Below.refl _ _))).mono hG⟩, Below.al hB, hB.size⟩
theorem RMid.b {B b : Nat} {w2 w9 : World} {M : Nat} {T : Tr} {G : Nat → Prop} {p : Int} {l : Bool} {a : Option Addr} {m d : Nat} (hB : Below w2.heap.size w2 w9) (hz : BoxAt w9 b #[.int .i64 0, .bool false, .slice none 0 0]) (hb2 : w2.heap.size ≤ b) (h : RNodeOn G M w9 [.int .i64 p, .bool l, .slice a m d] T) (hG : ∀ b, G b → B ≤ b) (hb : ¬ G b) :
    RMid B w2 M T (.pointer (some ⟨b, 0, none⟩)) (((w9.setCell ⟨b, 0, none⟩ (.int .i64 p)).setCell ⟨b, 1, none⟩ (.bool l)).setCell ⟨b, 2, none⟩ (.slice a m d)) :=
  ⟨_, rfl, ⟨p, l, a, m, d, ((hz.boxes.put 0 (.int .i64 p) (by simp)).put 1 (.bool l) (by simp)).put 2 (.slice a m d) (by simp), (h.put3 hb _ _ _).mono hG⟩, ((hB.setCell (by simpa using hb2) _).setCell (by simpa using hb2) _).setCell (by simpa using hb2) _, hb2⟩
/-- The box written over by a tree that stands elsewhere. -/
theorem RBox.put {B b : Nat} {w : World} {M : Nat} {T : Tr} {x0 x1 x2 : Value} {p : Int} {l : Bool} {a : Option Addr} {m d : Nat} (hx : Boxes w [(b, [x0, x1, x2])]) (h : RNodeOn (fun x => B ≤ x) M w [.int .i64 p, .bool l, .slice a m d] T) (hb : b < B) :
    RBox B b (((w.setCell ⟨b, 0, none⟩ (.int .i64 p)).setCell ⟨b, 1, none⟩ (.bool l)).setCell ⟨b, 2, none⟩ (.slice a m d)) M T :=
  ⟨p, l, a, m, d, ((hx.put 0 (.int .i64 p) (by simp)).put 1 (.bool l) (by simp)).put 2 (.slice a m d) (by simp), h.put3 (by omega) _ _ _⟩
/-- What 'Delete' answers, as deep as it is told. -/
theorem RDelTo.go {F G : Nat → Prop} {n M : Nat} {W w' : World} {t T : Tr} {key : List UInt8} {B : Bool} {e : Ending} {lo hi : List UInt8} (h : RDelTo F n W t key e w') (hT : delW n t key = T) (hB : (findT n t key).isSome = B) (hG : ∀ b, Fr F W b → G b) (hs : Shape M lo hi T) :
    ∃ p l a m d, e = .returned (.tuple #[.agg #[.int .i64 p, .bool l, .slice a m d], .bool B]) ∧ RNodeOn G M w' [.int .i64 p, .bool l, .slice a m d] T ∧ Below W.heap.size W w' := by
  obtain ⟨p, l, a, m, d, e, h1, h2⟩ := h
  subst hT hB
  exact ⟨p, l, a, m, d, e, (h1.mono hG).less hs, h2⟩
end Go.Proofs.Ytemfnjlfcemehaa
