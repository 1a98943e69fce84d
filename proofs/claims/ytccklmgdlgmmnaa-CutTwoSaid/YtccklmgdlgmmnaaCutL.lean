/- The statements' own example, and the walks of the statements. -/
import Derived.Test.YtccklmgdlgmmnaaCutA
import Derived.Test.YtccklmgdlgmmnaaCutR
namespace Go.Proofs.Ytccklmgdlgmmnaa
open Go.RowKit

theorem sm3 : Small [50, 50, 50] := ⟨by simp, by decide⟩
theorem sm2 : Small [61, 61] := ⟨by simp, by decide⟩
theorem sm2' : Small [3, 4] := ⟨by simp, by decide⟩
theorem sm1 : Small [29] := ⟨by simp, by decide⟩
theorem sm1' : Small [30] := ⟨by simp, by decide⟩

set_option maxHeartbeats 400000 in
theorem awake_any (w : World) :
    Calls Try.prog 7 #[] w fun e w' => e = .returned (.bool true) ∧ Below w.heap.size w w' := by
  go_enter Try.func7, Try.ntmps7
  go_wp2_with fail
  refine (at_any _ _ _ _ _ (Row.made .i64 _ 3 [50, 50, 50] (by simp) (by unfold maxLen; simp)) sm3).mono ?_
  rintro e w1 ⟨rfl, hb1⟩
  rw [show atF [50, 50, 50] = 1 from by decide]
  have c1 := below_alloc (Below.refl _ _) hb1
  clear hb1
  go_wp2_with fail
  refine (at_any _ _ _ _ _ (Row.made .i64 _ 3 [61, 61] (by simp) (by unfold maxLen; simp)) sm2).mono ?_
  rintro e w2 ⟨rfl, hb2⟩
  rw [show atF [61, 61] = 0 from by decide]
  have c2 := below_alloc c1 hb2
  clear hb2
  go_wp2_with fail
  refine (sum_any _ _ _ _ _ (Row.made .i64 _ 3 [3, 4] (by simp) (by unfold maxLen; simp)) sm2').mono ?_
  rintro e w3 ⟨rfl, rfl⟩
  rw [show sumI [3, 4] = 7 from by decide]
  go_wp2_with fail
  refine (low_any _ _ _ _ _ (Row.made .i64 _ 3 [29] (by simp) (by unfold maxLen; simp)) sm1).mono ?_
  rintro e w3 ⟨rfl, rfl⟩
  rw [show decide (sumI [29] < 30) = true from by decide]
  go_wp2_with fail
  refine (low_any _ _ _ _ _ (Row.made .i64 _ 3 [30] (by simp) (by unfold maxLen; simp)) sm1').mono ?_
  rintro e w3 ⟨rfl, rfl⟩
  rw [show decide (sumI [30] < 30) = false from by decide]
  go_wp2_with fail
  refine (neighbour_any 3 1 _ (by omega) (by omega)).mono ?_
  rintro e w3 ⟨rfl, rfl⟩
  rw [show neighF 3 1 = 2 from by decide]
  go_wp2_with fail
  refine (neighbour_any 3 2 _ (by omega) (by omega)).mono ?_
  rintro e w3 ⟨rfl, rfl⟩
  rw [show neighF 3 2 = 1 from by decide]
  go_wp2
  go_ret
  exact ⟨rfl, ((c2.alloc c2.size _).alloc (by have := c2.size; simp; omega) _).alloc (by have := c2.size; simp; omega) _⟩

set_option maxHeartbeats 2000000 in
theorem tells_any (a : Option Addr) (len cap : Nat) (l : List Int) (many k : Int) (w : World) (hr : Row .i64 w a len cap l) (hm : -9223372036854775808 ≤ many ∧ many ≤ 9223372036854775807) (hk : -9223372036854775808 ≤ k ∧ k ≤ 9223372036854775807) :
    Calls Try.prog 3 #[.slice a len cap, .int .i64 many, .int .i64 k] w fun e w' => e = .returned (.bool true) ∧ Below w.heap.size w w' := by
  by_cases hb : (0 ≤ many ∧ many ≤ 1000) ∧ 0 ≤ k ∧ k ≤ 1000
  · cases hsz : sizesB l with
    | false =>
      have HS := Lib.hid hsz
      clear hsz
      go_enter Try.func3, Try.ntmps3
      go_wp2_with fail
      refine (awake_any w).mono ?_
      rintro e w1 ⟨rfl, hb1⟩
      go_wp2_with fail
      refine (sizes_any _ _ _ _ _ (hr.below (Nat.le_refl _) hb1)).mono ?_
      rintro e w2 ⟨rfl, rfl⟩
      rw [HS.out]
      go_wp2
      go_ret
      exact ⟨rfl, hb1⟩
    | true =>
      have hs0 := sizesB_true hsz
      have hs : Small l := ⟨by omega, hs0.2⟩
      have HS := Lib.hid hsz
      clear hsz hs0
      obtain ⟨⟨hm0, hm1⟩, hk0, hk1⟩ := hb
      go_enter Try.func3, Try.ntmps3
      go_wp2_with fail
      refine (awake_any w).mono ?_
      rintro e w1 ⟨rfl, hb1⟩
      have hr1 := hr.below (Nat.le_refl _) hb1
      go_wp2_with fail
      refine (sizes_any _ _ _ _ _ hr1).mono ?_
      rintro e w2 ⟨rfl, rfl⟩
      rw [HS.out]
      go_wp2_with fail
      refine (sum_any _ _ _ _ _ hr1 hs).mono ?_
      rintro e w2 ⟨rfl, rfl⟩
      go_wp2_with fail
      refine (refSum_any _ _ _ _ _ hr1 hs).mono ?_
      rintro e w2 ⟨rfl, rfl⟩
      go_wp2_with fail
      refine (at_any _ _ _ _ _ hr1 hs).mono ?_
      rintro e w2 ⟨rfl, hb2⟩
      have hr2 := hr1.below (Nat.le_refl _) hb2
      have hb3 := hb1.trans (hb2.mono hb1.size)
      clear hb2
      go_wp2_with fail
      refine (refAt_any _ _ _ _ _ hr2 hs).mono ?_
      rintro e w2 ⟨rfl, rfl⟩
      go_wp2_with fail
      refine (low_any _ _ _ _ _ hr2 hs).mono ?_
      rintro e w2 ⟨rfl, rfl⟩
      go_wp2_with fail
      refine (refLow_any _ _ _ _ _ hr2 hs).mono ?_
      rintro e w2 ⟨rfl, rfl⟩
      go_wp2_with fail
      refine (neighbour_any _ _ _ ⟨hm0, hm1⟩ ⟨hk0, hk1⟩).mono ?_
      rintro e w2 ⟨rfl, rfl⟩
      go_wp2_with fail
      refine (refNeighbour_any _ _ _ ⟨hm0, hm1⟩ ⟨hk0, hk1⟩).mono ?_
      rintro e w2 ⟨rfl, rfl⟩
      go_wp2
      go_ret
      exact ⟨ret_bool (by simp), hb3⟩
  · go_enter Try.func3, Try.ntmps3
    go_wp2_with fail
    refine (awake_any w).mono ?_
    rintro e w1 ⟨rfl, hb1⟩
    go_wp2_with fail
    refine (sizes_any _ _ _ _ _ (hr.below (Nat.le_refl _) hb1)).mono ?_
    rintro e w2 ⟨rfl, rfl⟩
    cases sizesB l with
    | false =>
      go_wp2
      all_goals
        go_ret
        exact ⟨rfl, hb1⟩
    | true =>
      go_wp2_with fail
      all_goals first | (exfalso; omega) | (go_ret; exact ⟨rfl, hb1⟩)
end Go.Proofs.Ytccklmgdlgmmnaa
