/- The iterator over the places at which sizes can be parted. -/
import Derived.RangeFuncNested
import Derived.RangeFuncBound
import Derived.RangeFuncCalls
import Derived.RangeFuncLeaves
import Derived.RangeFuncBox
import Derived.Shelf.Abstract
import Derived.Shelf.RegionOpen
import Derived.WalkKit
import Derived.OwnWalkIn
import Derived.TacticsInMore
import Derived.LoopNIn
import Derived.LoopIn
import Derived.Test.YtccklmgdlgmmnaaCutW2
namespace Go.Proofs.Ytccklmgdlgmmnaa
open Go.RowKit Go.Shelf
attribute [local go_sem] Oper.semAt_some

def upto {α : Type} (f : Nat → α) (k : Nat) : List α := (List.range k).map f
theorem upto_succ {α : Type} (f : Nat → α) (k : Nat) : upto f (k + 1) = upto f k ++ [f k] := by simp [upto, List.range_succ]
theorem upto_length {α : Type} (f : Nat → α) (k : Nat) : (upto f k).length = k := by simp [upto]

def place (l : List Int) (k : Nat) : Int × Int := ((k : Int) + 1, worse l (k + 1))

set_option maxHeartbeats 400000 in
theorem parts_any (a : Option Addr) (len cap : Nat) (w : World) :
    Calls Try.prog 17 #[.slice a len cap] w fun e w' => e = .returned (.func (.func 19) #[] #[.pointer (some ⟨w.heap.size, 0, none⟩)]) ∧ w.alloc (.cells #[.slice a len cap] 22) = w' := by
  go_enter Try.func17, Try.ntmps17
  go_wp2
  go_ret
  exact ⟨rfl, rfl⟩

set_option maxRecDepth 100000 in
set_option maxHeartbeats 1000000 in
theorem parts1_in (n : Nat) (hn : 1 ≤ n) (l' Bs n₀ : Nat) (a : Option Addr) (len cap : Nat) (l : List Int) (hs : Small l) (J Jx : List (Int × Int) → World → Prop)
    (hY : ∀ pre x W, J pre W → pre.length < l.length → YieldAt Fence.wide (n - 1) Try.prog l' #[.int .i64 x.1, .int .i64 x.2] W fun e W' =>
      (e = .returned (.bool true) ∧ J (pre ++ [x]) W' ∧ Below n₀ W W') ∨ (e = .returned (.bool false) ∧ Jx (pre ++ [x]) W'))
    (W : World) (hBs : W.cell? ⟨Bs, 0, none⟩ = some (.slice a len cap)) (hr : Row .i64 W a len cap l) (hB : ∀ b off, len ≠ 0 → a = some ⟨b, off, none⟩ → b < n₀) (h0 : J [] W) :
    CallsIn Fence.wide n Try.prog 19 #[.func (.yield l') #[] #[], .pointer (some ⟨Bs, 0, none⟩)] W fun e W' => (∃ v, e = .returned v) ∧
      ((∃ ys, ys = upto (place l) (l.length - 1) ∧ J ys W') ∨ (∃ pre, True ∧ Jx pre W')) := by
  refine callsIn_of_wp Try.func19 rfl trivial ?_ rfl
  simp only [Try.ntmps19, List.size_toArray, List.length_cons, List.length_nil, Nat.reduceAdd, Nat.reduceSub, Array.replicate_succ, Array.replicate_zero, List.push_toArray, List.append_toArray, List.nil_append, List.cons_append]
  have hr0 := hr
  obtain ⟨h1, h2, h3, hnn, h4⟩ := hr
  unfold maxLen at h3
  subst h1
  gi_wp2_with (refine ⟨trivial, ?_⟩; gi_at_call 9; refine (callsIn_wide.2 (sum_any _ _ _ _ _ hr0 hs)).mono ?_; rintro e w' ⟨rfl, rfl⟩)
  gi_loopw [3, 4, 11] (fun ah re i wr => ∃ k : Nat, k ≤ l.length ∧ i = .int .i64 k ∧ ah = .int .i64 (sumI (l.take k)) ∧ re = .int .i64 (sumI (l.drop k)) ∧ J (upto (place l) (k - 1)) wr ∧ Below n₀ W wr)
    (fun _ _ i _ => l.length - (intOf i).toNat)
  case atStart => exact ⟨0, Nat.zero_le _, rfl, rfl, rfl, h0, Below.refl _ _⟩
  case round =>
    obtain ⟨k, hk, rfl, rfl, rfl, hJs, hnx⟩ := hrel
    by_cases hlt : k < l.length
    · rcases h4 with h4 | ⟨b, off, rfl, hb, hc⟩
      · omega
      have hck : wr.cell? ⟨b, off + k, none⟩ = _ := (hnx.cell (p := ⟨b, off + k, none⟩) (hB b off (by omega) rfl)).trans (hc k hlt)
      have hsn := sumI_take_succ l k hlt
      have hsd : sumI (l.drop (k + 1)) = sumI (l.drop k) - l[k]?.getD 0 := by
        have e1 := sumI_split l k
        have e2 := sumI_split l (k + 1)
        omega
      have hb1 := (hs.take k).bd
      have hb3 := (hs.drop k).bd
      have hb2 := hs.get k
      have hpl : 0 < k → place l (k - 1) = ((k : Int), max (sumI (l.take k)) (sumI (l.drop k))) := by
        intro hk0
        obtain ⟨m, rfl⟩ : ∃ m, k = m + 1 := ⟨k - 1, by omega⟩
        simp [place, worse]
      generalize l[k]?.getD 0 = x at *
      have H1 := Lib.hid hsn
      have H2 := Lib.hid hsd
      clear hsn hsd hc hr0
      by_cases hk0 : k = 0
      · have hkn : (k : Int) ≤ 0 := by omega
        have hd : decide ((0 : Int) < (k : Int)) = false := by simp; omega
        clear hpl
        have HK := Lib.hid hk0
        clear hk0
        gi_wp2
        refine ⟨fun _ h => (by cases h), ?_⟩
        gi_wp2
        go_roundw
        case rel => exact ⟨k + 1, by omega, by go_num, by rw [H1.out], by rw [H2.out], by rw [HK.out] at hJs ⊢; exact hJs, hnx⟩
        case measure => simp [intOf]; omega
      · have hpl' := Lib.hid (hpl (by omega))
        clear hpl
        have hkp : (0 : Int) < (k : Int) := by omega
        obtain ⟨fn, tmps, assign, body, hy, hR⟩ := hY _ (place l (k - 1)) wr hJs (by rw [upto_length]; omega)
        rw [hpl'.out] at hy
        dsimp only at hy
        have HJ := Lib.hid (show upto (place l) (k + 1 - 1) = upto (place l) (k - 1) ++ [place l (k - 1)] by
          rw [← upto_succ]; congr 1; omega)
        by_cases hm : sumI (l.take k) < sumI (l.drop k)
        · rw [Int.max_eq_right (by omega)] at hy
          gi_wp2
          refine hR.mono ?_
          rintro e W3 (⟨rfl, hJ3, hk3⟩ | ⟨rfl, hJx3⟩)
          · gi_wp2
            go_roundw
            case rel => exact ⟨k + 1, by omega, by go_num, by rw [H1.out], by rw [H2.out], by rw [HJ.out]; exact hJ3, hnx.trans hk3⟩
            case measure => simp [intOf]; omega
          · gi_wp2
            refine bodyPost_ret (results_none rfl _ _ _) rfl ?_
            exact ⟨⟨_, rfl⟩, .inr ⟨_, trivial, hJx3⟩⟩
        · rw [Int.max_eq_left (by omega)] at hy
          gi_wp2
          refine hR.mono ?_
          rintro e W3 (⟨rfl, hJ3, hk3⟩ | ⟨rfl, hJx3⟩)
          · gi_wp2
            go_roundw
            case rel => exact ⟨k + 1, by omega, by go_num, by rw [H1.out], by rw [H2.out], by rw [HJ.out]; exact hJ3, hnx.trans hk3⟩
            case measure => simp [intOf]; omega
          · gi_wp2
            refine bodyPost_ret (results_none rfl _ _ _) rfl ?_
            exact ⟨⟨_, rfl⟩, .inr ⟨_, trivial, hJx3⟩⟩
    · obtain rfl : k = l.length := by omega
      gi_wp2
      go_end0
      exact ⟨⟨_, rfl⟩, .inl ⟨_, rfl, hJs⟩⟩
end Go.Proofs.Ytccklmgdlgmmnaa
