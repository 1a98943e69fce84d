/- The reference's regions: Stop. -/
import Derived.Test.YtopnfpobbemfbaaDoorRgYq
namespace Go.Proofs.YtopnfpobbemfbaaDoor
open Go.RowKit

theorem from_up {K : Nat → Prop} {w w1 : World} (hb : Below w.heap.size w w1) : ∀ k, From K w1.heap.size k → From K w.heap.size k := fun _ hk => hk.imp id (fun h => Nat.le_trans hb.size h)
theorem from_up2 {K : Nat → Prop} {w w1 : World} (hb : Below w.heap.size w w1) : ∀ k, From (From K w.heap.size) w1.heap.size k → From K w.heap.size k := fun _ hk => hk.elim id (fun h => .inr (Nat.le_trans hb.size h))
/-- The record of a region. -/
def gcells (pa : Option Addr) (pc : Nat) (la : Option Addr) (lc : Nat) (x : Rg) : C4 := ⟨[.slice pa x.size pc, .slice la x.loose.length lc, .int .i64 x.left, .bool x.down], rfl, by
  intro v hv
  simp only [List.mem_cons, List.not_mem_nil, or_false] at hv
  rcases hv with rfl | rfl | rfl | rfl <;> rfl⟩
theorem with_rg {K : Nat → Prop} {w : World} {a : Option Addr} {len cap : Nat} {d : List Rg} (h : GsK K w a len cap d) (hlen : len ≤ 1000) (i : Nat) (hi : i < len) (x : Rg) {pa : Option Addr} {pc : Nat} {la : Option Addr} {lc : Nat} (hp : ∀ W, Agree K w W → Txs W pa x.size pc (pagesL x)) (hl : ∀ W, Agree K w W → Ls W la x.loose.length lc x.loose) (hs : x.size ≤ 1000) (hs2 : ∀ p ∈ x.loose, p.1 < x.size) (h1 : -1 ≤ x.left) (h2 : x.left ≤ 9223372036854775807) :
    Calls Tryd.prog 35 #[.slice a len cap, .int .i64 (i : Int), .agg #[.slice pa x.size pc, .slice la x.loose.length lc, .int .i64 x.left, .bool x.down]] w (GsPost K w (d.set i x)) :=
  with_any h hlen i hi (gcells pa pc la lc x) x (fun W hW => ⟨pa, pc, la, lc, rfl, hp W hW, hl W hW, hs, hs2, h1, h2⟩)
end Go.Proofs.YtopnfpobbemfbaaDoor
