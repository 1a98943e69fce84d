/- The walks of the chapter on parting: the places. -/
import Derived.Test.YtccklmgdlgmmnaaCutW
namespace Go.Proofs.Ytccklmgdlgmmnaa
open Go.RowKit

theorem size_ints (w : World) : (sizeOf (Try.prog.elem 22)).run Try.prog w = .ok 1 w := by kernel_rfl
theorem elem_ints : Try.prog.underlying 22 = some (.slice (Try.prog.elem 22)) := by kernel_rfl

set_option maxHeartbeats 400000 in
theorem worse_any (a : Option Addr) (len cap at' : Nat) (l : List Int) (w : World) (hr : Row .i64 w a len cap l) (hs : Small l) (hat : at' ≤ len) :
    Calls Try.prog 18 #[.slice a len cap, .int .i64 at'] w fun e w' => e = .returned (.int .i64 (worse l at')) ∧ w = w' := by
  have hm := hr.2.2.1
  have hc := hr.2.1
  have hd := hr.drop at' hat
  obtain ⟨a2, ha2, hsl⟩ := slice_from elem_ints size_ints a len cap at' hat
  rw [← ha2] at hd
  clear ha2
  have hg : sumI (l.drop at') < sumI (l.take at') ∨ ¬ sumI (l.drop at') < sumI (l.take at') := by omega
  have hw : Hid (worse l at' = if sumI (l.drop at') < sumI (l.take at') then sumI (l.take at') else sumI (l.drop at')) := Lib.hid (by unfold worse; omega)
  unfold maxLen at hm
  rcases hg with hg | hg <;>
  · go_enter Try.func18, Try.ntmps18
    go_wp2_with fail
    refine (refSum_any _ _ _ _ _ (hr.take at' hat) (hs.take at')).mono ?_
    rintro e w' ⟨rfl, rfl⟩
    go_wp2_with fail
    refine (refSum_any _ _ _ _ _ hd (hs.drop at')).mono ?_
    rintro e w' ⟨rfl, rfl⟩
    go_wp2
    go_ret
    exact ⟨ret_int (by rw [hw.out]; split <;> first | rfl | omega), rfl⟩
end Go.Proofs.Ytccklmgdlgmmnaa
