/- The reference's region: a call that counts; a text's bit. -/
import Derived.Test.YtopnfpobbemfbaaDoorRgWq
namespace Go.Proofs.YtopnfpobbemfbaaDoor
open Go.RowKit

def CountsPost (w : World) (pa : Option Addr) (pc : Nat) (la : Option Addr) (lc : Nat) (x : Rg) (e : Ending) (w' : World) : Prop :=
  e = .returned (.tuple #[.agg #[.slice pa x.size pc, .slice la x.loose.length lc, .int .i64 (cntR x).left, .bool (cntR x).down], .int .i64 (cntE x)]) ∧ Below w.heap.size w w'
set_option maxRecDepth 100000 in
set_option maxHeartbeats 2000000 in
theorem counts_rg {w : World} (pa : Option Addr) (pc : Nat) (la : Option Addr) (lc : Nat) (x : Rg) (hl : -1 ≤ x.left) (hr : x.left ≤ 9223372036854775807) :
    Calls Tryd.prog 34 #[.agg #[.slice pa x.size pc, .slice la x.loose.length lc, .int .i64 x.left, .bool x.down]] w (CountsPost w pa pc la lc x) := by
  have hb1 : ∀ c0 c1 c2 c3 : Value, Below w.heap.size w (w.alloc (.cells #[c0, c1, c2, c3] 75)) := fun _ _ _ _ => (Below.refl _ _).alloc (Nat.le_refl _) _
  by_cases h0 : x.left = 0
  · have q0 : (x.left == 0) = true := by simpa using h0
    have HE := Lib.hid (show cntE x = 3 by rw [cntE, if_pos h0])
    have HR := Lib.hid (show cntR x = { x with down := true } by rw [cntR, if_pos h0])
    clear h0
    go_enter Tryd.func34, Tryd.ntmps34
    go_wp2_with fail
    exact bodyPost_ret (v := .tuple #[.agg #[.slice pa x.size pc, .slice la x.loose.length lc, .int .i64 x.left, .bool true], .int .i64 3]) (by simp [results, Tryd.results34, go_sem]) rfl ⟨by rw [HE.out, HR.out], ((Below.refl _ _).alloc (Nat.le_refl _) _).alloc (by simp) _⟩
  · have q0 : (x.left == 0) = false := by simpa using h0
    have HE := Lib.hid (show cntE x = 0 by rw [cntE, if_neg h0])
    by_cases h1 : 0 < x.left
    · have q1 : decide (0 < x.left) = true := by simpa using h1
      have HR := Lib.hid (show cntR x = { x with left := x.left - 1 } by rw [cntR, if_neg h0, if_pos h1])
      clear h0
      go_enter Tryd.func34, Tryd.ntmps34
      go_wp2_with fail
      exact bodyPost_ret (v := .tuple #[.agg #[.slice pa x.size pc, .slice la x.loose.length lc, .int .i64 (x.left - 1), .bool x.down], .int .i64 0]) (by simp [results, Tryd.results34, go_sem]) rfl ⟨by rw [HE.out, HR.out], ((Below.refl _ _).alloc (Nat.le_refl _) _).alloc (by simp) _⟩
    · have q1 : decide (0 < x.left) = false := by simpa using h1
      have HR := Lib.hid (show cntR x = x by rw [cntR, if_neg h0, if_neg h1])
      clear h0
      go_enter Tryd.func34, Tryd.ntmps34
      go_wp2_with fail
      exact bodyPost_ret (v := .tuple #[.agg #[.slice pa x.size pc, .slice la x.loose.length lc, .int .i64 x.left, .bool x.down], .int .i64 0]) (by simp [results, Tryd.results34, go_sem]) rfl ⟨by rw [HE.out, HR.out], ((Below.refl _ _).alloc (Nat.le_refl _) _).alloc (by simp) _⟩
end Go.Proofs.YtopnfpobbemfbaaDoor
