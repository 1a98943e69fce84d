/- What the document's answers use of chapter 03: rows of numbers that are the same; a bit. -/
import Derived.Test.YtopnfpobbemfbaaBytes
import Derived.Outline
namespace Go.Proofs.Ytopnfpobbemfbaa
open Go.RowKit

theorem drewN_add (w : World) (a b : Nat) : (w.drewN a).drewN b = w.drewN (a + b) := by
  cases w; simp [World.drewN, Nat.add_assoc]
set_option maxRecDepth 100000 in
set_option maxHeartbeats 1000000 in
theorem ints_any {w : World} {a b : Option Addr} {n ca m cb : Nat} {l k : List Int} (ha : Row .i64 w a n ca l) (hb : Row .i64 w b m cb k) :
    Calls Try.prog 26 #[.slice a n ca, .slice b m cb] w fun e w' => e = .returned (.bool (decide (l = k))) ∧ ∃ j, w' = w.drewN j := by
  have hn := ha.1
  have hm := hb.1
  have hna : n ≤ 9223372036854775807 := by have := ha.2.1; have := ha.2.2.1; unfold maxLen at this; omega
  have hmb : m ≤ 9223372036854775807 := by have := hb.2.1; have := hb.2.2.1; unfold maxLen at this; omega
  by_cases hnm : n = m
  · subst hnm
    have e0 : ((n : Int) == (n : Int)) = true := by simp
    have HA := Lib.hid ha.2.2.2.2
    have HB := Lib.hid hb.2.2.2.2
    have HN := Lib.hid hn
    have HM := Lib.hid hm
    clear hn hm ha hb
    go_enter Try.func26, Try.ntmps26
    go_wp2
    go_loopw [5] (fun s wr => ∃ i : Nat, i ≤ n ∧ s = .int .i64 i ∧ l.take i = k.take i ∧ ∃ j, wr = w.drewN j) (fun s _ => n - (intOf s).toNat)
    case atStart => exact ⟨0, Nat.zero_le _, rfl, by simp, 0, rfl⟩
    case round =>
      obtain ⟨i, hi, rfl, htk, j, rfl⟩ := hrel
      by_cases hlt : i < n
      · obtain ⟨b1, o1, rfl, _, c1⟩ := HA.out.resolve_left (by omega)
        obtain ⟨b2, o2, rfl, _, c2⟩ := HB.out.resolve_left (by omega)
        have d1 := c1 i hlt
        have d2 := c2 i hlt
        have hl := HN.out
        have hk := HM.out
        have hts : l.take (i + 1) = l.take i ++ [l[i]?.getD 0] := by rw [List.take_succ_eq_append_getElem (by omega), List.getElem?_eq_getElem (by omega)]; rfl
        have htk2 : k.take (i + 1) = k.take i ++ [k[i]?.getD 0] := by rw [List.take_succ_eq_append_getElem (by omega), List.getElem?_eq_getElem (by omega)]; rfl
        by_cases he : l[i]?.getD 0 = k[i]?.getD 0
        · have HT : Hid (l.take (i + 1) = k.take (i + 1)) := Lib.hid (by rw [hts, htk2, htk, he])
          clear hts htk2 htk c1 c2 hl hk
          generalize l[i]?.getD 0 = x at *
          generalize k[i]?.getD 0 = y at *
          subst he
          have q1 : (x == x) = true := by simp
          go_wp2
          go_quiet (fail)
          go_wp2
          go_roundw
          case rel => exact ⟨i + 1, hlt, by go_num, HT.out, _, rfl⟩
          case measure => simp [intOf]; omega
        · have HF : Hid (decide (l = k) = false) := Lib.hid (by
            apply decide_eq_false
            intro e
            exact he (by rw [e]))
          clear hts htk2 htk c1 c2 hl hk
          generalize l[i]?.getD 0 = x at *
          generalize k[i]?.getD 0 = y at *
          have q1 : (x == y) = false := by simpa using he
          clear he
          go_wp2
          go_quiet (fail)
          go_wp2
          go_ret
          exact ⟨ret_bool HF.out.symm, _, drewN_add _ _ _⟩
      · obtain rfl : i = n := by omega
        have HF : Hid (decide (l = k) = true) := Lib.hid (by
          apply decide_eq_true
          rwa [List.take_of_length_le (by rw [HN.out]; exact Nat.le_refl _), List.take_of_length_le (by rw [HM.out]; exact Nat.le_refl _)] at htk)
        clear htk
        go_wp2
        go_ret
        exact ⟨ret_bool HF.out.symm, _, rfl⟩
  · have e0 : ((n : Int) == (m : Int)) = false := by simp; omega
    have e1 : (n == m) = false := by simpa using hnm
    have HF : Hid (decide (l = k) = false) := Lib.hid (by
      apply decide_eq_false
      intro e; subst e; omega)
    clear hn hm ha hb hnm
    go_enter Try.func26, Try.ntmps26
    go_wp2
    go_ret
    exact ⟨ret_bool HF.out.symm, 0, rfl⟩
set_option maxRecDepth 100000 in
set_option maxHeartbeats 1000000 in
theorem bit3_any (w : World) (x k : Nat) (hx : x < 18446744073709551616) (hk : k ≤ 1000) : Calls Try.prog 15 #[.int .u64 (x : Int), .int .i64 (k : Int)] w fun e w' => e = .returned (.bool (x / 2 ^ k % 2 == 1)) ∧ w = w' := by
  go_enter Try.func15, Try.ntmps15
  go_wp2
  go_loop [0, 5] (fun v s => ∃ i : Nat, i ≤ k ∧ s = .int .i64 i ∧ v = .int .u64 ((x / 2 ^ i : Nat) : Int)) (fun _ s => k - (intOf s).toNat)
  case atStart => exact ⟨0, Nat.zero_le _, rfl, by simp⟩
  case round =>
    obtain ⟨i, hi, rfl, rfl⟩ := hrel
    by_cases hlt : i < k
    · have hle : x / 2 ^ i ≤ x := Nat.div_le_self _ _
      have hdiv := Lib.hid (show x / 2 ^ (i + 1) = x / 2 ^ i / 2 by rw [Nat.pow_succ, Nat.div_div_eq_div_mul])
      generalize x / 2 ^ i = y at *
      go_wp2
      go_round
      case rel => exact ⟨i + 1, hlt, by go_num, by rw [hdiv.out]; go_num⟩
      case measure => simp [intOf]; omega
    · obtain rfl : i = k := by omega
      have hle : x / 2 ^ i ≤ x := Nat.div_le_self _ _
      generalize hy : x / 2 ^ i = y at *
      have HY := Lib.hid hy
      clear hy
      go_wp2
      go_ret
      refine ⟨ret_bool ?_, rfl⟩
      rw [HY.out]
      rcases Nat.mod_two_eq_zero_or_one y with h | h
      · rw [h]; simp; omega
      · rw [h]; simp; omega
end Go.Proofs.Ytopnfpobbemfbaa
