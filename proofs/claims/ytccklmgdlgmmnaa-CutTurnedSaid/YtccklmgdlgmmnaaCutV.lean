/- The walk of the statement on sizes the other way round. -/
import Derived.Test.YtccklmgdlgmmnaaCutT
namespace Go.Proofs.Ytccklmgdlgmmnaa
open Go.RowKit

theorem sum_val (v : Int) (a : Option Addr) (len cap : Nat) (l : List Int) (w : World) (hr : Row .i64 w a len cap l) (hs : Small l) (hv : sumI l = v) :
    Calls Try.prog 9 #[.slice a len cap] w fun e w' => e = .returned (.int .i64 v) ∧ w = w' := by
  subst hv; exact sum_any a len cap l w hr hs
theorem low_val (v : Int) (a : Option Addr) (len cap : Nat) (l : List Int) (w : World) (hr : Row .i64 w a len cap l) (hs : Small l) (hv : sumI l = v) :
    Calls Try.prog 13 #[.slice a len cap] w fun e w' => e = .returned (.bool (decide (v < 30))) ∧ w = w' := by
  subst hv; exact low_any a len cap l w hr hs

set_option maxHeartbeats 2000000 in
theorem turned_any (a : Option Addr) (len cap : Nat) (l : List Int) (w : World) (hr : Row .i64 w a len cap l) :
    Calls Try.prog 5 #[.slice a len cap] w fun e w' => e = .returned (.bool true) ∧ Below w.heap.size w w' := by
  obtain ⟨i0, hi, hz0, hz1, hz2⟩ := info_parts info_ints
  have hll := Lib.hid hr.1
  have hm := hr.2.2.1
  have hc := hr.2.1
  unfold maxLen at hm
  go_enter Try.func5, Try.ntmps5
  go_wp2_with fail
  refine (awake_any w).mono ?_
  rintro e w1 ⟨rfl, hb1⟩
  have hr1 := hr.below (Nat.le_refl _) hb1
  go_wp2_with fail
  refine (sizes_any _ _ _ _ _ hr1).mono ?_
  rintro e w5 ⟨rfl, rfl⟩
  cases hsz : sizesB l with
  | false =>
    clear hsz
    go_wp2
    go_ret
    exact ⟨rfl, hb1⟩
  | true =>
    have hs0 := sizesB_true hsz
    clear hsz
    have hs : Small l := ⟨by omega, hs0.2⟩
    have hl1 : l.length ≤ 100 := hs0.1
    have hl2 : len ≤ 100 := by rw [← hll.out]; exact hl1
    clear hs0
    go_wp2
    go_loopw [5, 6] (fun v i wr => ∃ k : Nat, k ≤ len ∧ i = .int .i64 ((k : Int) - 1) ∧ wr.ownsRow w1.heap.size 3 1 v (len - k) ((l.drop k).reverse.map (Value.int .i64)) ∧ Below w1.heap.size w1 wr)
      (fun _ i _ => (intOf i + 1).toNat)
    case atStart => exact ⟨len, Nat.le_refl _, rfl, by rw [← hll.out, List.drop_length, Nat.sub_self]; exact ⟨rfl, .inl ⟨rfl, rfl⟩⟩, Below.refl _ _⟩
    case round =>
      obtain ⟨k, hk, rfl, hown, hB1⟩ := hrel
      have hB1s := hB1.size
      by_cases hk0 : 1 ≤ k
      · obtain ⟨j, rfl⟩ : ∃ j, k = j + 1 := ⟨k - 1, by omega⟩
        have e : (((j + 1 : Nat) : Int) - 1) = (j : Int) := by omega
        rw [e]
        clear e
        rcases hr1.2.2.2.2 with h4 | ⟨b, off, rfl, hb, hcell⟩
        · omega
        have hck : wr.cell? ⟨b, off + j, none⟩ = _ := (hB1.cell (p := ⟨b, off + j, none⟩) hb).trans (hcell j (by omega))
        have hdr := Lib.hid (show (l.drop j).reverse = (l.drop (j + 1)).reverse ++ [l[j]?.getD 0] by
          rw [List.drop_eq_getElem_cons (show j < l.length by rw [hll.out]; omega)]
          simp [show j < l.length by rw [hll.out]; omega])
        generalize l[j]?.getD 0 = x at *
        clear hcell
        go_wp2_with (at_builtin; refine wpList_append_row rfl _ _ 22 rfl w1.heap.size 3 i0 _ 8 Try.underlying22 hi hz0 hz1 hz2 rfl _ (len - (j + 1)) ((l.drop (j + 1)).reverse.map (Value.int .i64)) rfl (hown.alloc _) .i64 (some ⟨wr.heap.size, 0, none⟩) 1 1 [x] rfl (Row.made .i64 wr 3 [x] rfl (by unfold maxLen; simp)) (by unfold maxLen; omega) (by omega) (by rw [World.size_alloc]; omega) ?_)
        intro v2 w7 hown2 hg2
        have c7 := (hB1.alloc hB1s (.cells #[.int .i64 x] 3)).grown hg2 (by rw [World.size_alloc]; omega) (own_ge hown)
        clear hg2
        have hown3 : w7.ownsRow w1.heap.size 3 1 v2 (len - j) ((l.drop j).reverse.map (Value.int .i64)) := by
          have e : len - (j + 1) + 1 = len - j := by omega
          rw [e] at hown2
          rw [hdr.out]; simpa using hown2
        clear hown hown2
        go_wp2
        go_roundw
        case rel => exact ⟨j, by omega, rfl, hown3, c7⟩
        case measure => simp [intOf]
      · obtain rfl : k = 0 := by omega
        rw [show (((0 : Nat) : Int) - 1) = -1 from rfl]
        rw [List.drop_zero, Nat.sub_zero] at hown
        obtain ⟨ab, capb, rfl, hrb⟩ := Row.of_own hown
        clear hown
        have hra := hr1.below (Nat.le_refl _) hB1
        have c0 := hb1.trans (hB1.mono hb1.size)
        have hs' := hs.reverse
        have htn := turned hs
        have hsr := Lib.hid (sumI_reverse l)
        go_wp2_with fail
        refine (at_any _ _ _ _ _ hra hs).mono ?_
        rintro e w2 ⟨rfl, hb2⟩
        have c2 := c0.trans (hb2.mono c0.size)
        have hra := hra.below (Nat.le_refl _) hb2
        have hrb := hrb.below (Nat.le_refl _) hb2
        clear hb2 c0
        go_wp2_with fail
        refine (at_any _ _ _ _ _ hrb hs').mono ?_
        rintro e w3 ⟨rfl, hb3⟩
        have c3 := c2.trans (hb3.mono c2.size)
        have hra := hra.below (Nat.le_refl _) hb3
        have hrb := hrb.below (Nat.le_refl _) hb3
        clear hb3 c2
        rcases htn with ⟨e1, e2⟩ | ⟨m, n, h1, h2, h3, h4, e1, e2, e3⟩
        · rw [e1, e2]
          clear e1 e2
          go_wp2
          go_ret
          exact ⟨rfl, c3⟩
        · rw [e1, e2]
          clear e1 e2
          have h2' : m ≤ len := by rw [hll.out] at h2; omega
          have h4' : n ≤ len := by rw [hll.out] at h4; omega
          obtain ⟨a2, ha2, hsl⟩ := slice_from elem_ints size_ints a len cap m h2'
          obtain ⟨a3, ha3, hsl3⟩ := slice_from elem_ints size_ints ab len capb n h4'
          have q1 := hra.take m h2'
          have q2 := hra.drop m h2'
          have q3 := hrb.take n h4'
          have q4 := hrb.drop n h4'
          rw [← ha2] at q2
          rw [← ha3] at q4
          clear ha2 ha3
          have bm : ((m : Int) == 0) = false := by simp; omega
          have bn : ((n : Int) == 0) = false := by simp; omega
          have hmx : max (sumI (l.take m)) (sumI (l.drop m)) = max (sumI (l.reverse.take n)) (sumI (l.reverse.drop n)) := e3
          obtain ⟨s0, v0⟩ : ∃ s0, Hid (sumI l = s0) := ⟨_, Lib.hid rfl⟩
          have v0' : Hid (sumI l.reverse = s0) := Lib.hid (by rw [hsr.out, v0.out])
          obtain ⟨p1, v1, e1⟩ : ∃ p, Hid (sumI (l.take m) = p) ∧ p = sumI (l.take m) := ⟨_, Lib.hid rfl, rfl⟩
          obtain ⟨p2, v2, e2⟩ : ∃ p, Hid (sumI (l.drop m) = p) ∧ p = sumI (l.drop m) := ⟨_, Lib.hid rfl, rfl⟩
          obtain ⟨p3, v3, e4⟩ : ∃ p, Hid (sumI (l.reverse.take n) = p) ∧ p = sumI (l.reverse.take n) := ⟨_, Lib.hid rfl, rfl⟩
          obtain ⟨p4, v4, e5⟩ : ∃ p, Hid (sumI (l.reverse.drop n) = p) ∧ p = sumI (l.reverse.drop n) := ⟨_, Lib.hid rfl, rfl⟩
          rw [← e1, ← e2, ← e4, ← e5] at hmx
          clear e1 e2 e3 e4 e5 hsr
          have hcb := hrb.2.1
          have hd : (p1 < p2 ∧ p3 < p4 ∧ p4 = p2) ∨ (p1 < p2 ∧ ¬ p3 < p4 ∧ p3 = p2) ∨ (¬ p1 < p2 ∧ p3 < p4 ∧ p4 = p1) ∨ (¬ p1 < p2 ∧ ¬ p3 < p4 ∧ p3 = p1) := by omega
          clear hmx
          rcases hd with ⟨x1, x2, rfl⟩ | ⟨x1, x2, rfl⟩ | ⟨x1, x2, rfl⟩ | ⟨x1, x2, rfl⟩
          all_goals
            go_wp2_with fail
            go_quiet (first | (go_at_call 9; first | (with_reducible exact quiet_same (sum_val _ _ _ _ l _ (hra.drewN _) hs v0.out)) | (with_reducible exact quiet_same (sum_val _ _ _ _ l.reverse _ (hrb.drewN _) hs' v0'.out)) | (with_reducible exact quiet_same (sum_val _ _ _ _ (l.take m) _ (q1.drewN _) (hs.take m) v1.out)) | (with_reducible exact quiet_same (sum_val _ _ _ _ (l.drop m) _ (q2.drewN _) (hs.drop m) v2.out)) | (with_reducible exact quiet_same (sum_val _ _ _ _ (l.reverse.take n) _ (q3.drewN _) (hs'.take n) v3.out)) | (with_reducible exact quiet_same (sum_val _ _ _ _ (l.reverse.drop n) _ (q4.drewN _) (hs'.drop n) v4.out))) | (go_at_call 13; first | (with_reducible exact quiet_same (low_val _ _ _ _ l _ (hra.drewN _) hs v0.out)) | (with_reducible exact quiet_same (low_val _ _ _ _ l.reverse _ (hrb.drewN _) hs' v0'.out))))
            go_wp2
            go_ret
            exact ⟨rfl, below_drewN c3 _⟩
end Go.Proofs.Ytccklmgdlgmmnaa
