/- The statements' own example, and the statement on what is put. -/
import Derived.Test.YtiaojbllbkgocaaOctR
import Derived.Deep.RegionWith
namespace Go.Proofs.Ytiaojbllbkgocaa
open Go.RowKit

theorem str_lit (l : List UInt8) : Value.string { data := l.toArray } = .string (strOf l) := rfl

set_option maxHeartbeats 2000000 in
theorem awake_any (w : World) :
    Calls Try.prog 8 #[] w fun e w' => e = .returned (.bool true) ∧ Below w.heap.size w w' := by
  have hst := strOf_toList
  go_enter Try.func8, Try.ntmps8
  go_wp2_with fail
  refine (take_any _ 6 6 [1, 2, 2, 97, 98, 9] _ (Row.made .u8 w 5 [1, 2, 2, 97, 98, 9] (by simp) (by unfold maxLen; simp)) (by omega)).mono ?_
  rintro e w1 ⟨rfl, htk, htn, hb1⟩
  have c1 := below_alloc (Below.refl _ _) hb1
  obtain ⟨t, ht⟩ : ∃ t, t = w1.heap.size - 1 := ⟨_, rfl⟩
  rw [← ht] at htk htn ⊢
  rw [World.size_alloc] at htn
  clear ht hb1
  have htw : w.heap.size ≤ t := by omega
  go_wp2_with fail
  refine (tNum_any t _ 2 w1 htk (by simp)).mono ?_
  rintro e w2 ⟨v, rfl, rfl, hg2, htk2⟩
  rw [show (tNum ⟨[1, 2, 2, 97, 98, 9], 0⟩ 2).2 = ⟨[2, 97, 98, 9], 0⟩ from by decide] at htk2
  rw [show (tNum ⟨[1, 2, 2, 97, 98, 9], 0⟩ 2).1 = 258 from by decide]
  have c2 := c1.grown hg2 c1.size (fun k e => by cases e; exact htw)
  clear hg2 htk
  go_wp2_with fail
  refine (tText_any t _ w2 htk2 (by simp)).mono ?_
  rintro e w3 ⟨v, rfl, rfl, hg3, htk3⟩
  rw [show (tText ⟨[2, 97, 98, 9], 0⟩).2 = ⟨[9], 0⟩ from by decide] at htk3
  rw [show (tText ⟨[2, 97, 98, 9], 0⟩).1 = [97, 98] from by decide]
  have c3 := c2.grown hg3 c2.size (fun k e => by cases e; exact htw)
  clear hg3 htk2 c2
  go_wp2_with fail
  refine (tDone_any t _ w3 htk3).mono ?_
  rintro e w4 ⟨rfl, rfl⟩
  rw [show tDone ⟨[9], 0⟩ = 11 from by decide]
  go_wp2_with fail
  refine (tRest_any t _ w3 htk3 (by simp)).mono ?_
  rintro e w4 ⟨v, rfl, hown, hg4, htk4⟩
  rw [show (tRest ⟨[9], 0⟩).2 = ⟨[], 0⟩ from by decide] at htk4
  rw [show (tRest ⟨[9], 0⟩).1 = [9] from by decide] at hown
  obtain ⟨a4, cap4, rfl, hbs4⟩ := Bs.of_own hown
  have c4 := c3.grown hg4 c3.size (fun k e => by cases e; exact htw)
  clear hg4 htk3 c3 hown
  go_wp2_with fail
  refine (num_any 258 2 w4 (by omega)).mono ?_
  rintro e w5 ⟨v, rfl, hown, hb5⟩
  rw [show numF 258 2 = [1, 2] from by decide] at hown
  obtain ⟨a5, cap5, rfl, hbs5⟩ := Bs.of_own hown
  have hcv5 : (convert 24 9 (.slice a5 2 cap5)).run Try.prog w5 = .ok (.string (strOf [1, 2])) w5 := conv_string Try.underlying24 Try.underlying5 Try.underlying9 hbs5
  have c5 := c4.trans (hb5.mono c4.size)
  have hbs4 := hbs4.below (Nat.le_refl _) hb5
  have htk4 := htk4.below (Nat.le_refl _) hb5
  clear hown hb5 c4
  go_wp2_with fail
  refine (text_any [97, 98] w5 (by simp)).mono ?_
  rintro e w6 ⟨v, rfl, hown, hb6⟩
  rw [show textF [97, 98] = [2, 97, 98] from by decide] at hown
  obtain ⟨a6, cap6, rfl, hbs6⟩ := Bs.of_own hown
  have hcv6 : (convert 24 9 (.slice a6 3 cap6)).run Try.prog w6 = .ok (.string (strOf [2, 97, 98])) w6 := conv_string Try.underlying24 Try.underlying5 Try.underlying9 hbs6
  have c6 := c5.trans (hb6.mono c5.size)
  have hbs4 := hbs4.below (Nat.le_refl _) hb6
  have htk4 := htk4.below (Nat.le_refl _) hb6
  have hcv4 : (convert 24 9 (.slice a4 1 cap4)).run Try.prog w6 = .ok (.string (strOf [9])) w6 := conv_string Try.underlying24 Try.underlying5 Try.underlying9 hbs4
  clear hown hb6 c5 hcv5
  go_wp2_with fail
  refine (tDone_any t _ w6 htk4).mono ?_
  rintro e w7 ⟨rfl, rfl⟩
  rw [show tDone ⟨[], 0⟩ = 0 from by decide]
  go_wp2_with fail
  refine (tErr_any t _ w6 htk4).mono ?_
  rintro e w7 ⟨rfl, rfl⟩
  go_wp2
  go_ret
  exact ⟨rfl, c6⟩

set_option maxHeartbeats 2000000 in
theorem puts_any (x size : Int) (l : List UInt8) (w : World) (hx : 0 ≤ x ∧ x < 18446744073709551616) (hl : l.length ≤ 9223372036854775807) :
    Calls Try.prog 3 #[.int .u64 x, .int .i64 size, .string (strOf l)] w fun e w' => e = .returned (.bool true) ∧ Below w.heap.size w w' := by
  have hst := strOf_toList
  have hsz := strOf_size l
  by_cases h3 : 3000 < l.length
  · go_enter Try.func3, Try.ntmps3
    go_wp2_with fail
    refine (awake_any w).mono ?_
    rintro e w1 ⟨rfl, c1⟩
    go_wp2
    go_ret
    exact ⟨rfl, c1⟩
  · go_enter Try.func3, Try.ntmps3
    go_wp2_with fail
    refine (awake_any w).mono ?_
    rintro e w1 ⟨rfl, c1⟩
    go_wp2_with fail
    go_region_with (first | (go_at_call 9; refine (num_any x size _ hx).mono ?_; rintro e w2 ⟨v, rfl, hown, hb2⟩; obtain ⟨a2, cap2, rfl, hbs2⟩ := Bs.of_own hown; have hcv2 := conv_string Try.underlying24 Try.underlying5 Try.underlying9 hbs2; clear hown) | (go_at_call 10; refine (refNum_any x size _ hx).mono ?_; rintro e w3 ⟨rfl, hb3⟩; have hcv3 := conv_string Try.underlying24 Try.underlying5 Try.underlying9 (hbs2.below (Nat.le_refl _) hb3)) | (go_at_call 11; refine (text_any l _ hl).mono ?_; rintro e w4 ⟨v, rfl, hown, hb4⟩; obtain ⟨a4, cap4, rfl, hbs4⟩ := Bs.of_own hown; have hcv4 := conv_string Try.underlying24 Try.underlying5 Try.underlying9 hbs4; clear hown) | (go_at_call 12; refine (refText_any l _ hl).mono ?_; rintro e w5 ⟨rfl, hb5⟩; have hcv5 := conv_string Try.underlying24 Try.underlying5 Try.underlying9 (hbs4.below (Nat.le_refl _) hb5)))
    all_goals
      go_wp2
      go_ret
      exact ⟨rfl, below_then (below_then (below_then (below_then c1.drew hb2) hb3) hb4) hb5⟩
end Go.Proofs.Ytiaojbllbkgocaa
