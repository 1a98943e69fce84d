/- The reference's region: a call that counts; a text's bit. -/
import Derived.Test.YtopnfpobbemfbaaRgW
namespace Go.Proofs.Ytopnfpobbemfbaa
open Go.RowKit

def CountsPost (w : World) (pa : Option Addr) (pc : Nat) (la : Option Addr) (lc : Nat) (x : Rg) (e : Ending) (w' : World) : Prop :=
  e = .returned (.tuple #[.agg #[.slice pa x.size pc, .slice la x.loose.length lc, .int .i64 (cntR x).left, .bool (cntR x).down], .int .i64 (cntE x)]) ∧ Below w.heap.size w w'
set_option maxRecDepth 100000 in
set_option maxHeartbeats 2000000 in
theorem counts_rg {w : World} (pa : Option Addr) (pc : Nat) (la : Option Addr) (lc : Nat) (x : Rg) (hl : -1 ≤ x.left) (hr : x.left ≤ 9223372036854775807) :
    Calls Try.prog 38 #[.agg #[.slice pa x.size pc, .slice la x.loose.length lc, .int .i64 x.left, .bool x.down]] w (CountsPost w pa pc la lc x) := by
  have hb1 : ∀ c0 c1 c2 c3 : Value, Below w.heap.size w (w.alloc (.cells #[c0, c1, c2, c3] 58)) := fun _ _ _ _ => (Below.refl _ _).alloc (Nat.le_refl _) _
  by_cases h0 : x.left = 0
  · have q0 : (x.left == 0) = true := by simpa using h0
    have HE := Lib.hid (show cntE x = 3 by rw [cntE, if_pos h0])
    have HR := Lib.hid (show cntR x = { x with down := true } by rw [cntR, if_pos h0])
    clear h0
    go_enter Try.func38, Try.ntmps38
    go_wp2_with fail
    exact bodyPost_ret (v := .tuple #[.agg #[.slice pa x.size pc, .slice la x.loose.length lc, .int .i64 x.left, .bool true], .int .i64 3]) (by simp [results, Try.results38, go_sem]) rfl ⟨by rw [HE.out, HR.out], ((Below.refl _ _).alloc (Nat.le_refl _) _).alloc (by simp) _⟩
  · have q0 : (x.left == 0) = false := by simpa using h0
    have HE := Lib.hid (show cntE x = 0 by rw [cntE, if_neg h0])
    by_cases h1 : 0 < x.left
    · have q1 : decide (0 < x.left) = true := by simpa using h1
      have HR := Lib.hid (show cntR x = { x with left := x.left - 1 } by rw [cntR, if_neg h0, if_pos h1])
      clear h0
      go_enter Try.func38, Try.ntmps38
      go_wp2_with fail
      exact bodyPost_ret (v := .tuple #[.agg #[.slice pa x.size pc, .slice la x.loose.length lc, .int .i64 (x.left - 1), .bool x.down], .int .i64 0]) (by simp [results, Try.results38, go_sem]) rfl ⟨by rw [HE.out, HR.out], ((Below.refl _ _).alloc (Nat.le_refl _) _).alloc (by simp) _⟩
    · have q1 : decide (0 < x.left) = false := by simpa using h1
      have HR := Lib.hid (show cntR x = x by rw [cntR, if_neg h0, if_neg h1])
      clear h0
      go_enter Try.func38, Try.ntmps38
      go_wp2_with fail
      exact bodyPost_ret (v := .tuple #[.agg #[.slice pa x.size pc, .slice la x.loose.length lc, .int .i64 x.left, .bool x.down], .int .i64 0]) (by simp [results, Try.results38, go_sem]) rfl ⟨by rw [HE.out, HR.out], ((Below.refl _ _).alloc (Nat.le_refl _) _).alloc (by simp) _⟩
set_option maxRecDepth 100000 in
set_option maxHeartbeats 2000000 in
theorem rbit_any (w : World) (s : List UInt8) (i : Nat) (hi : i ≤ 1000000) : Calls Try.prog 41 #[.string (strOf s), .int .i64 (i : Int)] w fun e w' => e = .returned (.bool (bitB s i)) ∧ w = w' := by
  have z1 := strOf_size s
  have hst := strOf_toList s
  by_cases h : i / 8 < s.length
  · have q0 : decide (s.length ≤ i / 8) = false := by simp; omega
    have ebt : (strOf s)[i / 8]'(by rw [strOf_size]; exact h) = s[i / 8] := by rw [strOf_get s _ h, List.getElem?_eq_getElem h]; rfl
    have HB := Lib.hid (show bitB s i = (s[i / 8].toNat / 2 ^ (i % 8) % 2 == 1) by rw [bitB, List.getElem?_eq_getElem h])
    have hc : s[i / 8].toNat < 256 := s[i / 8].toNat_lt
    rw [← ebt] at HB hc
    clear ebt
    go_enter Try.func41, Try.ntmps41
    go_wp2_with fail
    go_loop [5, 6] (fun v k => ∃ j : Nat, j ≤ i % 8 ∧ k = .int .i64 j ∧ v = .int .i64 (((strOf s)[i / 8]'(by rw [strOf_size]; exact h)).toNat / 2 ^ j : Nat)) (fun _ k => i % 8 - (intOf k).toNat)
    case atStart => exact ⟨0, Nat.zero_le _, rfl, by simp⟩
    case round =>
      obtain ⟨j, hj, rfl, rfl⟩ := hrel
      generalize ((strOf s)[i / 8]'(by rw [strOf_size]; exact h)).toNat = c at *
      by_cases hlt : j < i % 8
      · have hle : c / 2 ^ j ≤ c := Nat.div_le_self _ _
        have hdiv := Lib.hid (show c / 2 ^ (j + 1) = c / 2 ^ j / 2 by rw [Nat.pow_succ, Nat.div_div_eq_div_mul])
        have q1 : decide ((j : Int) < (i : Int) % 8) = true := by simp; omega
        generalize c / 2 ^ j = y at *
        go_wp2_with fail
        go_round
        case rel => exact ⟨j + 1, hlt, by go_num, by rw [hdiv.out]; go_num⟩
        case measure => simp [intOf]; omega
      · have hji : j = i % 8 := by omega
        rw [← hji] at HB
        have hle : c / 2 ^ j ≤ c := Nat.div_le_self _ _
        have q1 : decide ((j : Int) < (i : Int) % 8) = false := by simp; omega
        clear hji
        generalize hy : c / 2 ^ j = y at *
        clear hy
        go_wp2_with fail
        go_ret
        refine ⟨ret_bool ?_, rfl⟩
        rw [HB.out]
        rcases Nat.mod_two_eq_zero_or_one y with h | h
        · rw [h]; simp; omega
        · rw [h]; simp; omega
  · have q0 : decide (s.length ≤ i / 8) = true := by simp; omega
    have HB := Lib.hid (show bitB s i = false by rw [bitB, List.getElem?_eq_none (by omega)])
    go_enter Try.func41, Try.ntmps41
    go_wp2_with fail
    go_ret
    exact ⟨ret_bool HB.out.symm, rfl⟩
end Go.Proofs.Ytopnfpobbemfbaa
