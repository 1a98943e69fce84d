/- The walk of the statement on cells that fit. -/
import Derived.Test.YtccklmgdlgmmnaaCutV
namespace Go.Proofs.Ytccklmgdlgmmnaa
open Go.RowKit

/-- The greater part at a place, of the two sums under names of their own. -/
theorem parted (l : List Int) (m : Nat) : ∃ p1 p2 : Int, Hid (sumI (l.take m) = p1) ∧ Hid (sumI (l.drop m) = p2) ∧ ((p1 < p2 ∧ worse l m = p2) ∨ (¬ p1 < p2 ∧ worse l m = p1)) :=
  ⟨_, _, Lib.hid rfl, Lib.hid rfl, by unfold worse; omega⟩

set_option maxRecDepth 100000 in
set_option maxHeartbeats 4000000 in
theorem fits_any (a : Option Addr) (len cap : Nat) (l : List Int) (w : World) (hr : Row .i64 w a len cap l) :
    Calls Try.prog 4 #[.slice a len cap] w fun e w' => e = .returned (.bool true) ∧ Below w.heap.size w w' := by
  have hll := Lib.hid hr.1
  have hm := hr.2.2.1
  have hc := hr.2.1
  unfold maxLen at hm
  go_enter Try.func4, Try.ntmps4
  go_wp2_with fail
  refine (awake_any w).mono ?_
  rintro e w1 ⟨rfl, hb1⟩
  have hr1 := hr.below (Nat.le_refl _) hb1
  go_wp2_with fail
  refine (sizes_any _ _ _ _ _ hr1).mono ?_
  rintro e w5 ⟨rfl, rfl⟩
  cases hsz : sizesB l with
  | false =>
    clear hsz
    go_wp2
    go_ret
    exact ⟨rfl, hb1⟩
  | true =>
    have hs0 := sizesB_true hsz
    clear hsz
    have hs : Small l := ⟨by omega, hs0.2⟩
    have hl2 : len ≤ 100 := by rw [← hll.out]; exact hs0.1
    clear hs0
    go_wp2_with fail
    refine (at_any _ _ _ _ _ hr1 hs).mono ?_
    rintro e w2 ⟨rfl, hb2⟩
    have c2 := hb1.trans (hb2.mono hb1.size)
    have hr2 := hr1.below (Nat.le_refl _) hb2
    clear hb2 hb1 hr1 hr
    go_wp2_with fail
    refine (sum_any _ _ _ _ _ hr2 hs).mono ?_
    rintro e w3 ⟨rfl, rfl⟩
    have htn := atF_cases hs
    rw [hll.out] at htn
    rcases htn with ⟨e1, e2⟩ | ⟨hsum, m, h1, h2, e1, hleast⟩
    · rw [e1]
      clear e1
      rcases e2 with e2 | e2
      · go_wp2
        go_ret
        exact ⟨ret_bool (by simp [e2]), c2⟩
      · by_cases e3 : sumI l ≤ 122
        · go_wp2
          go_ret
          exact ⟨ret_bool (by simp [e3]), c2⟩
        · go_wp2
          go_ret
          exact ⟨ret_bool (by simp; omega), c2⟩
    · rw [e1]
      clear e1
      have h2' : m ≤ len := by omega
      obtain ⟨a2, ha2, hsl⟩ := slice_from elem_ints size_ints a len cap m h2'
      have q1 := hr2.take m h2'
      have q2 := hr2.drop m h2'
      rw [← ha2] at q2
      clear ha2
      have bm : ((m : Int) == 0) = false := by simp; omega
      obtain ⟨p1, p2, v1, v2, hp⟩ := parted l m
      obtain ⟨B, hB⟩ : ∃ B, B = worse l m := ⟨_, rfl⟩
      rw [← hB] at hp hleast
      have HB := Lib.hid hB
      have HL := Lib.hid hleast
      clear hB hleast
      obtain ⟨s, hs1⟩ : ∃ s, s = sumI l := ⟨_, rfl⟩
      rw [← hs1] at hsum ⊢
      have HS := Lib.hid hs1
      clear hs1
      have hdA : decide (s ≤ 122) = false := by simp; omega
      have hdB : decide ((m : Int) < 0) = false := by simp
      have hdC : decide (len ≤ m) = false := by simp; omega
      rcases hp with ⟨x1, rfl⟩ | ⟨x1, rfl⟩
      all_goals
        go_wp2_with fail
        go_quiet (first | (go_at_call 9; first | (with_reducible exact quiet_same (sum_val _ _ _ _ (l.take m) _ (q1.drewN _) (hs.take _) v1.out)) | (with_reducible exact quiet_same (sum_val _ _ _ _ (l.drop m) _ (q2.drewN _) (hs.drop _) v2.out))))
        have hr3 := hr2.drewN nq
        have c3 := below_drewN c2 nq
        generalize w2.drewN nq = w3 at *
        clear hr2 c2 q1 q2
        go_wp2
        go_loopw [9, 10] (fun kk _ wr => ∃ k : Nat, 1 ≤ k ∧ k ≤ len ∧ kk = .int .i64 k ∧ Row .i64 wr a len cap l ∧ Below w.heap.size w wr) (fun kk _ _ => len - (intOf kk).toNat)
        case atStart => exact ⟨1, by omega, by omega, rfl, hr3, c3⟩
        case round =>
          obtain ⟨k, hk1, hk2, rfl, hr4, c4⟩ := hrel
          by_cases hlt : k < len
          · have hk : k ≤ len := by omega
            obtain ⟨a3, ha3, hsl3⟩ := slice_from elem_ints size_ints a len cap k hk
            have q1 := hr4.take k hk
            have q2 := hr4.drop k hk
            rw [← ha3] at q2
            clear ha3
            have hl := HL.out k hk1 hlt
            obtain ⟨r1, r2, v1, v2, hp⟩ := parted l k
            obtain ⟨X, hX⟩ : ∃ X, X = worse l k := ⟨_, rfl⟩
            rw [← hX] at hp hl
            clear hX
            obtain ⟨hl1, hl3⟩ := hl
            have hxb : ((X == B) = true ∧ m ≤ k) ∨ ((X == B) = false) := by
              by_cases e : X = B
              · exact .inl ⟨by simpa using e, hl3 e⟩
              · exact .inr (by simpa using e)
            clear hl3
            rcases hp with ⟨y1, rfl⟩ | ⟨y1, rfl⟩ <;> rcases hxb with ⟨z1, z2⟩ | z1
            all_goals
              go_wp2_with fail
              go_quiet (first | (go_at_call 9; first | (with_reducible exact quiet_same (sum_val _ _ _ _ (l.take k) _ (q1.drewN _) (hs.take _) v1.out)) | (with_reducible exact quiet_same (sum_val _ _ _ _ (l.drop k) _ (q2.drewN _) (hs.drop _) v2.out))))
              have hr5 := hr4.drewN nq
              have c5 := below_drewN c4 nq
              generalize wr.drewN nq = w6 at *
              clear hr4 c4 q1 q2 hsl3
              go_wp2
              go_roundw
              case rel => exact ⟨k + 1, by omega, by omega, by go_num, hr5, c5⟩
              case measure => simp [intOf]; omega
          · clear hsl
            go_wp2
            go_loop [8, 11] (fun mm kk => ∃ k : Nat, k ≤ len ∧ kk = .int .i64 k ∧ mm = .int .i64 (mx (l.take k))) (fun _ kk => len - (intOf kk).toNat)
            case atStart => exact ⟨0, by omega, rfl, rfl⟩
            case round =>
              obtain ⟨j, hj, rfl, rfl⟩ := hrel
              by_cases hjl : j < len
              · rcases hr4.2.2.2.2 with h4 | ⟨b, off, rfl, hb, hcell⟩
                · omega
                have hck := hcell j hjl
                have hsn := mx_snoc l j (by rw [hll.out]; exact hjl)
                generalize l[j]?.getD 0 = x at *
                have H := Lib.hid hsn
                clear hsn hcell
                by_cases hx : mx (l.take j) < x
                all_goals
                  go_wp2
                  go_round
                  case rel => exact ⟨j + 1, by omega, by go_num, by rw [H.out]; go_num⟩
                  case measure => simp [intOf]; omega
              · obtain rfl : j = len := by omega
                rw [← hll.out, List.take_length, hll.out]
                have hmost := mx_le l
                obtain ⟨M, hM⟩ : ∃ M, M = mx l := ⟨_, rfl⟩
                rw [← hM] at hmost ⊢
                clear hM
                have hfit : M ≤ 37 → s ≤ 159 → B ≤ 122 ∧ 30 ≤ sumI (l.take m) ∧ 30 ≤ sumI (l.drop m) := by
                  intro g1 g2
                  have g3 := fits hs (m := m) (fun x hx => by have := hmost x hx; omega) (by rw [← HS.out]; exact hsum) (by rw [← HS.out]; exact g2) (fun k a b => by
                    rw [← HB.out]; exact (HL.out k a (by rw [← hll.out]; exact b)).1)
                  rw [← HB.out] at g3
                  exact g3
                clear hmost
                by_cases g1 : M ≤ 37
                · by_cases g2 : s ≤ 159
                  · obtain ⟨g3, g4, g5⟩ := hfit g1 g2
                    clear hfit
                    obtain ⟨a4, ha4, hsl4⟩ := slice_from elem_ints size_ints a j cap m h2'
                    have q1 := hr4.take m h2'
                    have q2 := hr4.drop m h2'
                    rw [← ha4] at q2
                    clear ha4
                    have d1 : decide (sumI (l.take m) < 30) = false := by simp; omega
                    have d2 : decide (sumI (l.drop m) < 30) = false := by simp; omega
                    have D1 := Lib.hid d1
                    have D2 := Lib.hid d2
                    clear d1 d2
                    go_wp2_with fail
                    refine (low_any _ _ _ _ _ q1 (hs.take m)).mono ?_
                    rintro e w7 ⟨rfl, rfl⟩
                    rw [D1.out]
                    go_wp2_with fail
                    refine (low_any _ _ _ _ _ q2 (hs.drop m)).mono ?_
                    rintro e w7 ⟨rfl, rfl⟩
                    rw [D2.out]
                    go_wp2
                    go_ret
                    exact ⟨rfl, c4⟩
                  · clear hfit
                    go_wp2
                    go_ret
                    exact ⟨ret_bool (by simp <;> omega), c4⟩
                · clear hfit
                  go_wp2
                  go_ret
                  exact ⟨ret_bool (by simp <;> omega), c4⟩
end Go.Proofs.Ytccklmgdlgmmnaa
