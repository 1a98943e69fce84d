/- The walks of the chapter on parting: sums, lowness, neighbours. -/
import Derived.Test.YtccklmgdlgmmnaaBase
import Derived.Test.YtccklmgdlgmmnaaCutSpec
namespace Go.Proofs.Ytccklmgdlgmmnaa
open Go.RowKit

set_option maxHeartbeats 400000 in
theorem neighbour_any (m k : Int) (w : World) (hm : 0 ≤ m ∧ m ≤ 1000) (hk : 0 ≤ k ∧ k ≤ 1000) :
    Calls Try.prog 15 #[.int .i64 m, .int .i64 k] w fun e w' => e = .returned (.int .i64 (neighF m k)) ∧ w = w' := by
  by_cases h : k + 1 < m
  · go_enter Try.func15, Try.ntmps15
    go_wp2
    go_ret
    exact ⟨ret_int (by unfold neighF; split <;> omega), rfl⟩
  · go_enter Try.func15, Try.ntmps15
    go_wp2
    go_ret
    exact ⟨ret_int (by unfold neighF; split <;> omega), rfl⟩

set_option maxHeartbeats 400000 in
theorem refNeighbour_any (m k : Int) (w : World) (hm : 0 ≤ m ∧ m ≤ 1000) (hk : 0 ≤ k ∧ k ≤ 1000) :
    Calls Try.prog 16 #[.int .i64 m, .int .i64 k] w fun e w' => e = .returned (.int .i64 (neighF m k)) ∧ w = w' := by
  by_cases h : k + 1 < m
  · go_enter Try.func16, Try.ntmps16
    go_wp2
    go_ret
    exact ⟨ret_int (by unfold neighF; split <;> omega), rfl⟩
  · go_enter Try.func16, Try.ntmps16
    go_wp2
    go_ret
    exact ⟨ret_int (by unfold neighF; split <;> omega), rfl⟩

set_option maxHeartbeats 400000 in
theorem sum_any (a : Option Addr) (len cap : Nat) (l : List Int) (w : World) (hr : Row .i64 w a len cap l) (hs : Small l) :
    Calls Try.prog 9 #[.slice a len cap] w fun e w' => e = .returned (.int .i64 (sumI l)) ∧ w = w' := by
  obtain ⟨h1, h2, h3, hnn, h4⟩ := hr
  unfold maxLen at h3
  subst h1
  go_enter Try.func9, Try.ntmps9
  go_wp2
  go_loop [3, 8] (fun s i => ∃ k : Nat, k ≤ l.length ∧ i = .int .i64 k ∧ s = .int .i64 (sumI (l.take k))) (fun _ i => l.length - (intOf i).toNat)
  case atStart => exact ⟨0, Nat.zero_le _, rfl, rfl⟩
  case round =>
    obtain ⟨k, hk, rfl, rfl⟩ := hrel
    by_cases hlt : k < l.length
    · rcases h4 with h4 | ⟨b, off, rfl, hb, hc⟩
      · omega
      have hck := hc k hlt
      have hsn := sumI_take_succ l k hlt
      have hb1 := (hs.take k).bd
      have hb2 := hs.get k
      generalize l[k]?.getD 0 = x at *
      have H := Lib.hid hsn
      clear hsn hc hs
      go_wp2
      go_round
      case rel => exact ⟨k + 1, by omega, by go_num, by rw [H.out]⟩
      case measure => simp [intOf]; omega
    · obtain rfl : k = l.length := by omega
      simp only [List.take_length]
      go_wp2
      go_ret
      exact ⟨rfl, rfl⟩

set_option maxHeartbeats 400000 in
theorem refSum_any (a : Option Addr) (len cap : Nat) (l : List Int) (w : World) (hr : Row .i64 w a len cap l) (hs : Small l) :
    Calls Try.prog 10 #[.slice a len cap] w fun e w' => e = .returned (.int .i64 (sumI l)) ∧ w = w' := by
  obtain ⟨h1, h2, h3, hnn, h4⟩ := hr
  unfold maxLen at h3
  subst h1
  go_enter Try.func10, Try.ntmps10
  go_wp2
  go_loop [3, 4] (fun s i => ∃ k : Nat, k ≤ l.length ∧ i = .int .i64 k ∧ s = .int .i64 (sumI (l.take k))) (fun _ i => l.length - (intOf i).toNat)
  case atStart => exact ⟨0, Nat.zero_le _, rfl, rfl⟩
  case round =>
    obtain ⟨k, hk, rfl, rfl⟩ := hrel
    by_cases hlt : k < l.length
    · rcases h4 with h4 | ⟨b, off, rfl, hb, hc⟩
      · omega
      have hck := hc k hlt
      have hsn := sumI_take_succ l k hlt
      have hb1 := (hs.take k).bd
      have hb2 := hs.get k
      generalize l[k]?.getD 0 = x at *
      have H := Lib.hid hsn
      clear hsn hc hs
      go_wp2
      go_round
      case rel => exact ⟨k + 1, by omega, by go_num, by rw [H.out]⟩
      case measure => simp [intOf]; omega
    · obtain rfl : k = l.length := by omega
      simp only [List.take_length]
      go_wp2
      go_ret
      exact ⟨rfl, rfl⟩

set_option maxHeartbeats 400000 in
theorem low_any (a : Option Addr) (len cap : Nat) (l : List Int) (w : World) (hr : Row .i64 w a len cap l) (hs : Small l) :
    Calls Try.prog 13 #[.slice a len cap] w fun e w' => e = .returned (.bool (decide (sumI l < 30))) ∧ w = w' := by
  go_enter Try.func13, Try.ntmps13
  go_wp2_with (go_at_call 9; refine (sum_any _ _ _ _ _ hr hs).mono ?_; rintro e w' ⟨rfl, rfl⟩)
  go_ret
  exact ⟨rfl, rfl⟩

set_option maxHeartbeats 400000 in
theorem refLow_any (a : Option Addr) (len cap : Nat) (l : List Int) (w : World) (hr : Row .i64 w a len cap l) (hs : Small l) :
    Calls Try.prog 14 #[.slice a len cap] w fun e w' => e = .returned (.bool (decide (sumI l < 30))) ∧ w = w' := by
  go_enter Try.func14, Try.ntmps14
  go_wp2_with (go_at_call 10; refine (refSum_any _ _ _ _ _ hr hs).mono ?_; rintro e w' ⟨rfl, rfl⟩)
  go_ret
  exact ⟨rfl, rfl⟩

set_option maxHeartbeats 400000 in
theorem sizes_any (a : Option Addr) (len cap : Nat) (l : List Int) (w : World) (hr : Row .i64 w a len cap l) :
    Calls Try.prog 8 #[.slice a len cap] w fun e w' => e = .returned (.bool (sizesB l)) ∧ w = w' := by
  obtain ⟨h1, h2, h3, hnn, h4⟩ := hr
  unfold maxLen at h3
  subst h1
  go_enter Try.func8, Try.ntmps8
  go_wp2
  go_loop [3] (fun i => ∃ k : Nat, k ≤ l.length ∧ i = .int .i64 k ∧ ∀ j, j < k → 0 ≤ l[j]?.getD 0 ∧ l[j]?.getD 0 ≤ 1000) (fun i => l.length - (intOf i).toNat)
  case atStart => exact ⟨0, Nat.zero_le _, rfl, fun j hj => by omega⟩
  case round =>
    obtain ⟨k, hk, rfl, hall⟩ := hrel
    have HA := Lib.hid hall
    clear hall
    by_cases hlt : k < l.length
    · rcases h4 with h4 | ⟨b, off, rfl, hb, hc⟩
      · omega
      have hck := hc k hlt
      have HB := Lib.hid (sizesB_bad k hlt)
      obtain ⟨x, hx⟩ : ∃ x, x = l[k]?.getD 0 := ⟨_, rfl⟩
      rw [← hx] at hck HB
      have H := Lib.hid hx
      clear hx hc
      by_cases hx0 : x < 0
      · go_wp2
        go_ret
        exact ⟨ret_bool (HB.out (.inl hx0)).symm, rfl⟩
      · by_cases hx1 : 1000 < x
        · go_wp2
          go_ret
          exact ⟨ret_bool (HB.out (.inr hx1)).symm, rfl⟩
        · go_wp2
          go_round
          case rel => exact ⟨k + 1, by omega, by go_num, fun j hj => by
            by_cases e : j < k
            · exact HA.out j e
            · obtain rfl : j = k := by omega
              rw [← H.out]; omega⟩
          case measure => simp [intOf]; omega
    · obtain rfl : k = l.length := by omega
      go_wp2
      go_ret
      exact ⟨ret_bool (sizesB_all HA.out).symm, rfl⟩

end Go.Proofs.Ytccklmgdlgmmnaa
