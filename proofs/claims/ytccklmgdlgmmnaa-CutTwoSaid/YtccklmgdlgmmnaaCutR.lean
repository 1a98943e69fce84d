/- The reference's place: the walk. -/
import Derived.Test.YtccklmgdlgmmnaaCutW2
namespace Go.Proofs.Ytccklmgdlgmmnaa
open Go.RowKit

set_option maxHeartbeats 1000000 in
theorem refAt_any (a : Option Addr) (len cap : Nat) (l : List Int) (w : World) (hr : Row .i64 w a len cap l) (hs : Small l) :
    Calls Try.prog 12 #[.slice a len cap] w fun e w' => e = .returned (.int .i64 (atF l)) ∧ w = w' := by
  have hbd := hs.bd
  have hll := Lib.hid hr.1
  have hl1 := hs.1
  have hlc := hr.2.1
  have hm := hr.2.2.1
  unfold maxLen at hm
  have hlen : l.length ≤ len ∧ len ≤ l.length := by rw [hr.1]; omega
  by_cases hle : sumI l ≤ 122
  · have hat : Hid (atF l = 0) := Lib.hid (by simp [atF, hle])
    go_enter Try.func12, Try.ntmps12
    go_wp2_with (go_at_call 10; refine (refSum_any _ _ _ _ _ hr hs).mono ?_; rintro e w' ⟨rfl, rfl⟩)
    go_ret
    exact ⟨ret_int hat.out.symm, rfl⟩
  · by_cases hl2 : len < 2
    · have hat : Hid (atF l = 0) := Lib.hid (by
        have e : l.length - 1 = 0 := by omega
        simp [atF, hle, e, bestTo_zero])
      go_enter Try.func12, Try.ntmps12
      go_wp2_with (go_at_call 10; refine (refSum_any _ _ _ _ _ hr hs).mono ?_; rintro e w' ⟨rfl, rfl⟩)
      go_ret
      exact ⟨ret_int hat.out.symm, rfl⟩
    · have hat : Hid (atF l = (bestTo l (len - 1)).2) := Lib.hid (by rw [← hr.1]; simp [atF, hle])
      go_enter Try.func12, Try.ntmps12
      go_wp2_with (go_at_call 10; refine (refSum_any _ _ _ _ _ hr hs).mono ?_; rintro e w' ⟨rfl, rfl⟩)
      go_loop [3, 4] (fun at' kk => ∃ k m : Nat, 2 ≤ k ∧ k ≤ len ∧ kk = .int .i64 k ∧ at' = .int .i64 m ∧ 1 ≤ m ∧ m < k ∧ bestTo l (k - 1) = (worse l m, (m : Int))) (fun _ k => len - (intOf k).toNat)
      case atStart =>
        obtain ⟨m, h1, h2, e⟩ := bestTo_pos hs 0
        obtain rfl : m = 1 := by omega
        exact ⟨2, 1, by omega, by omega, rfl, rfl, h1, by omega, e⟩
      case round =>
        obtain ⟨k, m, hk2, hk, rfl, rfl, hm1, hm2, hb⟩ := hrel
        have hst : bestTo l (k + 1 - 1) = better (worse l m, (m : Int)) ((k : Int), worse l k) := by
          obtain ⟨n, rfl⟩ : ∃ n, k = n + 1 := ⟨k - 1, by omega⟩
          have := bestTo_succ l n
          simp only [Nat.add_sub_cancel] at hb ⊢
          rw [this, hb]; simp
        have HB := Lib.hid hb
        have HS := Lib.hid hst
        clear hb hst
        by_cases hlt : k < len
        · by_cases hw : worse l k < worse l m
          · go_wp2_with fail
            refine (worse_any _ _ _ k _ _ hr hs (by omega)).mono ?_
            rintro e w' ⟨rfl, rfl⟩
            go_wp2_with fail
            refine (worse_any _ _ _ m _ _ hr hs (by omega)).mono ?_
            rintro e w' ⟨rfl, rfl⟩
            go_wp2
            go_round
            case rel => exact ⟨k + 1, k, by omega, by omega, by go_num, rfl, by omega, by omega, by rw [HS.out, better, if_pos hw]⟩
            case measure => simp [intOf]; omega
          · go_wp2_with fail
            refine (worse_any _ _ _ k _ _ hr hs (by omega)).mono ?_
            rintro e w' ⟨rfl, rfl⟩
            go_wp2_with fail
            refine (worse_any _ _ _ m _ _ hr hs (by omega)).mono ?_
            rintro e w' ⟨rfl, rfl⟩
            go_wp2
            go_round
            case rel => exact ⟨k + 1, m, by omega, by omega, by go_num, rfl, by omega, by omega, by rw [HS.out, better, if_neg (by simpa using hw)]⟩
            case measure => simp [intOf]; omega
        · obtain rfl : k = len := by omega
          go_wp2
          go_ret
          exact ⟨ret_int (by rw [hat.out, HB.out]), rfl⟩
end Go.Proofs.Ytccklmgdlgmmnaa
