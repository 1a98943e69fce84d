/- The walks of the statements on two sizes, and on sizes the other way round. -/
import Derived.Test.YtccklmgdlgmmnaaCutL
import Derived.Test.YtccklmgdlgmmnaaCutM
namespace Go.Proofs.Ytccklmgdlgmmnaa
open Go.RowKit

theorem atF_one (x : Int) : atF [x] = 0 := by simp [atF, bestTo_zero]
theorem atF_two (x y : Int) (hx : 0 ≤ x ∧ x ≤ 255) (hy : 0 ≤ y ∧ y ≤ 255) : atF [x, y] = if 122 < x + y then 1 else 0 := by
  have hs : Small [x, y] := ⟨by simp, by simp; omega⟩
  have e : sumI [x, y] = x + y := by simp [sumI_cons, sumI_nil]
  rcases atF_cases hs with ⟨h, hc⟩ | ⟨h, m, h1, h2, h3, _⟩
  · rw [h, e] at *; simp at hc; rw [if_neg (by omega)]
  · simp at h2
    obtain rfl : m = 1 := by omega
    rw [e] at h; rw [h3, if_pos h]; rfl

theorem info_ints : (Try.prog.info? 3).map (fun i => (i.zero, i.size, i.bytes)) = some (some (.int .i64 0), 1, 8) := by kernel_rfl

set_option maxHeartbeats 2000000 in
theorem two_any (p q : Int) (a : Option Addr) (len cap : Nat) (l : List Int) (w : World) (hp : 0 ≤ p ∧ p ≤ 255) (hq : 0 ≤ q ∧ q ≤ 255) (hr : Row .i64 w a len cap l) :
    Calls Try.prog 6 #[.int .u8 p, .int .u8 q, .slice a len cap] w fun e w' => e = .returned (.bool true) ∧ Below w.heap.size w w' := by
  obtain ⟨i0, hi, hz0, hz1, hz2⟩ := info_parts info_ints
  have s2 : Small [p, q] := ⟨by simp, by simp; omega⟩
  have s1 : Small [p] := ⟨by simp, by simp; omega⟩
  have s0 : Small [] := ⟨by simp, by simp⟩
  have hll := Lib.hid hr.1
  have hm := hr.2.2.1
  have hc := hr.2.1
  unfold maxLen at hm
  obtain ⟨t, ht⟩ : ∃ t : Int, t = if 122 < p + q then 1 else 0 := ⟨_, rfl⟩
  have e2 := Lib.hid ((atF_two p q hp hq).trans ht.symm)
  have htw : (p + q > 122 ∧ t = 1) ∨ (¬ p + q > 122 ∧ t = 0) := by split at ht <;> omega
  clear ht
  rcases htw with ⟨hpq, rfl⟩ | ⟨hpq, rfl⟩ <;>
  · go_enter Try.func6, Try.ntmps6
    go_wp2_with fail
    refine (awake_any w).mono ?_
    rintro e w1 ⟨rfl, hb1⟩
    go_wp2_with fail
    refine (at_any _ _ _ _ _ (Row.made .i64 _ 3 [p, q] (by simp) (by unfold maxLen; simp)) s2).mono ?_
    rintro e w2 ⟨rfl, hb2⟩
    rw [e2.out]
    have c2 := below_alloc hb1 hb2
    clear hb2
    go_wp2_with fail
    refine (at_any _ _ _ _ _ (Row.made .i64 _ 3 [p] (by simp) (by unfold maxLen; simp)) s1).mono ?_
    rintro e w3 ⟨rfl, hb3⟩
    rw [atF_one]
    have c3 := below_alloc c2 hb3
    clear hb3
    go_wp2_with fail
    refine (at_any _ _ _ _ _ (show Row .i64 w3 none 0 0 [] from ⟨rfl, Nat.le_refl _, by unfold maxLen; omega, fun _ => rfl, .inl rfl⟩) s0).mono ?_
    rintro e w4 ⟨rfl, hb4⟩
    rw [show atF [] = 0 from rfl]
    have c4 := c3.trans (hb4.mono c3.size)
    clear hb4
    go_wp2_with fail
    refine (low_any _ _ _ _ _ (Row.made .i64 _ 3 [p] (by simp) (by unfold maxLen; simp)) s1).mono ?_
    rintro e w5 ⟨rfl, rfl⟩
    rw [show sumI [p] = p by simp [sumI_cons, sumI_nil]]
    have c5 : Below w.heap.size w (w4.alloc (.cells ([p].map (Value.int .i64)).toArray 3)) := c4.alloc c4.size _
    go_wp2_with fail
    refine (sizes_any _ _ _ _ _ (hr.below (Nat.le_refl _) c5)).mono ?_
    rintro e w5 ⟨rfl, rfl⟩
    cases hsz : sizesB l with
    | false =>
      clear hsz
      go_wp2
      go_ret
      exact ⟨rfl, c5⟩
    | true =>
      have hs0 := sizesB_true hsz
      clear hsz
      have hs : Small l := ⟨by omega, hs0.2⟩
      have hl1 : l.length ≤ 100 := hs0.1
      have hl2 : len ≤ 100 := by rw [← hll.out]; exact hl1
      clear hs0
      by_cases h2 : len < 2
      · go_wp2
        go_ret
        exact ⟨rfl, c5⟩
      · have hs' : Small (l ++ [0]) := ⟨by simp; omega, fun x hx => by
          rcases List.mem_append.1 hx with h | h
          · exact hs.2 x h
          · simp at h; omega⟩
        have hat := Lib.hid (atF_nought hs (by rw [hll.out]; omega))
        have hsz5 : (w4.alloc (.cells ([p].map (Value.int .i64)).toArray 3)).heap.size = w4.heap.size + 1 := by simp
        obtain ⟨w5, hw5⟩ : ∃ w5, w5 = w4.alloc (.cells ([p].map (Value.int .i64)).toArray 3) := ⟨_, rfl⟩
        rw [← hw5] at c5 hsz5 ⊢
        clear hw5 c4
        have c5s := c5.size
        go_wp2_with (at_builtin; refine wpList_append_row rfl _ _ 22 rfl w.heap.size 3 i0 _ 8 Try.underlying22 hi hz0 hz1 hz2 rfl (.slice none 0 0) 0 [] rfl ⟨rfl, .inl ⟨rfl, rfl⟩⟩ .i64 a len cap l rfl (hr.below (Nat.le_refl _) c5) (by unfold maxLen; omega) (by omega) c5s ?_)
        intro v1 w6 hown hg
        have c6 := c5.grown hg c5s (fun k e => by cases e)
        have c6s := c6.size
        clear hg
        go_wp2_with (at_builtin; refine wpList_append_row rfl _ _ 22 rfl w.heap.size 3 i0 _ 8 Try.underlying22 hi hz0 hz1 hz2 rfl v1 len (l.map (Value.int .i64)) rfl (hown.alloc _) .i64 (some ⟨w6.heap.size, 0, none⟩) 1 1 [0] rfl (Row.made .i64 w6 3 [0] rfl (by unfold maxLen; simp)) (by unfold maxLen; omega) (by omega) (by simp; omega) ?_)
        intro v2 w7 hown2 hg2
        have c7 := (c6.alloc c6s (.cells #[.int .i64 0] 3)).grown hg2 (by simp; omega) (own_ge hown)
        clear hg2
        have hown2' : w7.ownsRow w.heap.size 3 1 v2 (len + 1) ((l ++ [0]).map (Value.int .i64)) := by simpa using hown2
        obtain ⟨a2, cap2, rfl, hr2⟩ := Row.of_own hown2'
        clear hown hown2 hown2'
        go_wp2_with fail
        refine (at_any _ _ _ _ _ hr2 hs').mono ?_
        rintro e w8 ⟨rfl, hb8⟩
        rw [hat.out]
        have c8 := c7.trans (hb8.mono c7.size)
        clear hb8
        go_wp2_with fail
        refine (at_any _ _ _ _ _ (hr.below (Nat.le_refl _) c8) hs).mono ?_
        rintro e w9 ⟨rfl, hb9⟩
        have c9 := c8.trans (hb9.mono c8.size)
        clear hb9
        go_wp2
        go_ret
        exact ⟨rfl, c9⟩
end Go.Proofs.Ytccklmgdlgmmnaa
