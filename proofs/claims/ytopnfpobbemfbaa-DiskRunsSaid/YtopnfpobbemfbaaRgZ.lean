/- The reference's regions: Stop. -/
import Derived.Test.YtopnfpobbemfbaaRgY
namespace Go.Proofs.Ytopnfpobbemfbaa
open Go.RowKit

theorem from_up {K : Nat → Prop} {w w1 : World} (hb : Below w.heap.size w w1) : ∀ k, From K w1.heap.size k → From K w.heap.size k := fun _ hk => hk.imp id (fun h => Nat.le_trans hb.size h)
theorem from_up2 {K : Nat → Prop} {w w1 : World} (hb : Below w.heap.size w w1) : ∀ k, From (From K w.heap.size) w1.heap.size k → From K w.heap.size k := fun _ hk => hk.elim id (fun h => .inr (Nat.le_trans hb.size h))
/-- The record of a region. -/
def gcells (pa : Option Addr) (pc : Nat) (la : Option Addr) (lc : Nat) (x : Rg) : C4 := ⟨[.slice pa x.size pc, .slice la x.loose.length lc, .int .i64 x.left, .bool x.down], rfl, by
  intro v hv
  simp only [List.mem_cons, List.not_mem_nil, or_false] at hv
  rcases hv with rfl | rfl | rfl | rfl <;> rfl⟩
theorem with_rg {K : Nat → Prop} {w : World} {a : Option Addr} {len cap : Nat} {d : List Rg} (h : GsK K w a len cap d) (hlen : len ≤ 1000) (i : Nat) (hi : i < len) (x : Rg) {pa : Option Addr} {pc : Nat} {la : Option Addr} {lc : Nat} (hp : ∀ W, Agree K w W → Txs W pa x.size pc (pagesL x)) (hl : ∀ W, Agree K w W → Ls W la x.loose.length lc x.loose) (hs : x.size ≤ 1000) (hs2 : ∀ p ∈ x.loose, p.1 < x.size) (h1 : -1 ≤ x.left) (h2 : x.left ≤ 9223372036854775807) :
    Calls Try.prog 39 #[.slice a len cap, .int .i64 (i : Int), .agg #[.slice pa x.size pc, .slice la x.loose.length lc, .int .i64 x.left, .bool x.down]] w (GsPost K w (d.set i x)) :=
  with_any h hlen i hi (gcells pa pc la lc x) x (fun W hW => ⟨pa, pc, la, lc, rfl, hp W hW, hl W hW, hs, hs2, h1, h2⟩)
set_option maxRecDepth 100000 in
set_option maxHeartbeats 2000000 in
theorem rstop_any {K : Nat → Prop} {w : World} {a : Option Addr} {len cap : Nat} {d : List Rg} (h : GsK K w a len cap d) (hlen : len ≤ 1000) (r af : Int) (haf : af ≤ 9223372036854775807) :
    Calls Try.prog 22 #[.slice a len cap, .int .i64 r, .int .i64 af] w (GsPost K w (stopD d r af)) := by
  have hl := h.1
  by_cases hr : 0 ≤ r ∧ r < len
  · obtain ⟨i, rfl⟩ := Int.eq_ofNat_of_zero_le hr.1
    have hi : i < len := by omega
    obtain ⟨x, hx⟩ : ∃ x, d[i]? = some x := ⟨_, List.getElem?_eq_getElem (by omega)⟩
    obtain ⟨b, off, pa, pc, la, lc, rfl, hb, c0, c1, c2, c3, g2, g3, g4, g5, g6, g7⟩ := h.at hx
    have hs : stopD d (i : Int) af = d.set i { x with left := max af (-1) } := by rw [stopD, if_pos (by omega), atR_of hx, Int.toNat_natCast]
    have q0 : decide ((i : Int) < 0) = false := by simp
    have q1 : decide (len ≤ i) = false := by simp; omega
    have HI := Lib.hid hi
    by_cases ha : af < 0
    · have q2 : decide (af < 0) = true := by simpa using ha
      have hm : max af (-1) = -1 := by omega
      have hbb : Below w.heap.size w (w.alloc (.cells #[.slice pa x.size pc, .slice la x.loose.length lc, .int .i64 (-1), .bool x.down] 58)) := (Below.refl _ _).alloc (Nat.le_refl _) _
      have C := with_rg (h.below hbb) hlen i hi { x with left := -1 } (fun W hW => g2 W ((agree_below hbb).trans hW)) (fun W hW => g3 W ((agree_below hbb).trans hW)) g4 g5 (by simp) (by simp)
      rw [hm] at hs
      rw [hs]
      have HBB := Lib.hid hbb
      clear h hl hx g2 g3 g5 hs hr ha hm hi hbb
      go_enter Try.func22, Try.ntmps22
      go_wp2_with fail
      refine C.mono ?_
      rintro e w3 ⟨a3, n3, cap3, rfl, hg3, hb3⟩
      have END := Lib.hid (show GsPost K w (d.set i { x with left := -1 }) (.returned (.slice a3 n3 cap3)) w3 from ⟨a3, n3, cap3, rfl, hg3.mono (from_up HBB.out), below_then HBB.out hb3⟩)
      clear C hg3 hb3
      go_wp2_with fail
      go_ret
      exact END.out
    · have q2 : decide (af < 0) = false := by simpa using ha
      have hm : max af (-1) = af := by omega
      have hbb : Below w.heap.size w (w.alloc (.cells #[.slice pa x.size pc, .slice la x.loose.length lc, .int .i64 af, .bool x.down] 58)) := (Below.refl _ _).alloc (Nat.le_refl _) _
      have C := with_rg (h.below hbb) hlen i hi { x with left := af } (fun W hW => g2 W ((agree_below hbb).trans hW)) (fun W hW => g3 W ((agree_below hbb).trans hW)) g4 g5 (by simp only; omega) (by simp only; omega)
      rw [hm] at hs
      rw [hs]
      have HBB := Lib.hid hbb
      clear h hl hx g2 g3 g5 hs hr ha hm hi hbb
      go_enter Try.func22, Try.ntmps22
      go_wp2_with fail
      refine C.mono ?_
      rintro e w3 ⟨a3, n3, cap3, rfl, hg3, hb3⟩
      have END := Lib.hid (show GsPost K w (d.set i { x with left := af }) (.returned (.slice a3 n3 cap3)) w3 from ⟨a3, n3, cap3, rfl, hg3.mono (from_up HBB.out), below_then HBB.out hb3⟩)
      clear C hg3 hb3
      go_wp2_with fail
      go_ret
      exact END.out
  · have hs : stopD d r af = d := by rw [stopD, if_neg (by rw [hl]; exact hr)]
    rw [hs]
    have END := Lib.hid (show GsPost K w d (.returned (.slice a len cap)) w from ⟨a, len, cap, rfl, h.mono (fun _ hk => .inl hk), Below.refl _ _⟩)
    by_cases h0 : r < 0
    · have q0 : decide (r < 0) = true := by simpa using h0
      clear h hl hs hr h0
      go_enter Try.func22, Try.ntmps22
      go_wp2_with fail
      go_ret
      exact END.out
    · have q0 : decide (r < 0) = false := by simpa using h0
      have q1 : decide ((len : Int) ≤ r) = true := by simp; omega
      clear h hl hs hr h0
      go_enter Try.func22, Try.ntmps22
      go_wp2_with fail
      go_ret
      exact END.out
end Go.Proofs.Ytopnfpobbemfbaa
