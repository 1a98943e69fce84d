/- The walks of the chapter on numbers and texts as bytes. -/
import Derived.Test.YtoaiiiblakgopaaDoorBytes
import Derived.Test.YtoaiiiblakgopaaDoorOctSpec
namespace Go.Proofs.YtoaiiiblakgopaaDoor
open Go.RowKit

theorem info_u8 : (Tryd.prog.info? 5).map (fun i => (i.zero, i.size, i.bytes)) = some (some (.int .u8 0), 1, 1) := by kernel_rfl

set_option maxHeartbeats 1000000 in
theorem num_bad (x size : Int) (w : World) (h : size < 1 ∨ 8 < size) :
    Calls Tryd.prog 19 #[.int .u64 x, .int .i64 size] w fun e w' => e = .returned (.slice none 0 0) ∧ w = w' := by
  rcases h with h | h
  · go_enter Tryd.func19, Tryd.ntmps19
    go_wp2
    go_ret
    exact ⟨rfl, rfl⟩
  · have h' : ¬ size < 1 := by omega
    go_enter Tryd.func19, Tryd.ntmps19
    go_wp2
    go_ret
    exact ⟨rfl, rfl⟩

set_option maxHeartbeats 1000000 in
theorem num_ok (x : Nat) (n : Nat) (w : World) (_hx : x < 18446744073709551616) (h1 : 1 ≤ n) (h8 : n ≤ 8) :
    Calls Tryd.prog 19 #[.int .u64 x, .int .i64 n] w (OwnBytes 5 w (beBytes x n)) := by
  obtain ⟨i0, hi, hz0, hz1, hz2⟩ := info_parts info_u8
  go_enter Tryd.func19, Tryd.ntmps19
  go_wp2_with (at_make; refine wpList_make_full _ rfl _ _ 25 rfl w.heap.size 5 i0 _ 1 Tryd.underlying25 hi hz0 hz1 .i64 .i64 _ _ n rfl rfl rfl rfl (by rw [hz2]; omega) (by unfold maxLen; omega) (Nat.le_refl _) ?_)
  intro w1 hown hg
  have hB := (Below.refl w.heap.size w).grown hg (Nat.le_refl _) (fun k e => by cases e)
  clear hg
  have hown' : w1.ownsRow w.heap.size 5 1 (.slice (some ⟨w.heap.size, 0, none⟩) n n) n ((toI (List.replicate (n - 0) 0 ++ beBytes x 0)).map (Value.int .u8)) := by
    simp only [made_list] at hown
    simpa [beBytes, toI] using hown
  clear hown
  go_wp2
  go_loopw [17] (fun i wr => ∃ k : Nat, k ≤ n ∧ i = .int .i64 k ∧ wr.ownsRow w.heap.size 5 1 (.slice (some ⟨w.heap.size, 0, none⟩) n n) n ((toI (List.replicate (n - k) 0 ++ beBytes x k)).map (Value.int .u8)) ∧ Below w.heap.size w wr) (fun i _ => n - (intOf i).toNat)
  case atStart => exact ⟨0, Nat.zero_le _, rfl, hown', hB⟩
  case round =>
    obtain ⟨k, hk, rfl, hr, hb⟩ := hrel
    by_cases hlt : k < n
    · have hc := hr.cellAt (n - 1 - k) (by omega)
      have hf := hr.frozenAt (n - 1 - k)
      have hst := hr.stored (n - 1 - k) (.int .u8 ((x : Int) / 2 ^ (8 * k) % 256))
      have hv := congrArg (Value.int .u8) (be_byte x k)
      have hlist : ((toI (List.replicate (n - k) 0 ++ beBytes x k)).map (Value.int .u8)).set (n - 1 - k) (.int .u8 ((x : Int) / 2 ^ (8 * k) % 256)) = (toI (List.replicate (n - (k + 1)) 0 ++ beBytes x (k + 1))).map (Value.int .u8) := by
        rw [hv, ← be_set x n k hlt]
        simp only [toI, List.map_set]
      rw [hlist] at hst
      have hst := hst.1
      clear hlist hv
      rw [List.getElem?_map, toI, List.getElem?_map, be_at x n k hlt] at hc
      have hc' : wr.cell? ⟨w.heap.size, n - 1 - k, none⟩ = some (.int .u8 0) := hc
      clear hc
      have HS := Lib.hid hst
      clear hst
      go_wp2
      go_roundw
      case rel => exact ⟨k + 1, by omega, by go_num, HS.out, hb.setCell (Nat.le_refl _) _⟩
      case measure => simp [intOf]; omega
    · obtain rfl : k = n := by omega
      have hl := Lib.hid (beBytes_length x k)
      have hr' : wr.ownsRow w.heap.size 5 1 (.slice (some ⟨w.heap.size, 0, none⟩) k k) (beBytes x k).length ((toI (beBytes x k)).map (Value.int .u8)) := by
        rw [hl.out]; simpa using hr
      go_wp2
      go_ret
      exact ⟨_, rfl, hr', hb⟩

theorem num_any (x size : Int) (w : World) (hx : 0 ≤ x ∧ x < 18446744073709551616) :
    Calls Tryd.prog 19 #[.int .u64 x, .int .i64 size] w (OwnBytes 5 w (numF x size)) := by
  by_cases h : size < 1 ∨ 8 < size
  · refine (num_bad x size w h).mono ?_
    rintro e w' ⟨rfl, rfl⟩
    rw [numF, if_pos h]
    exact ⟨_, rfl, ⟨rfl, .inl ⟨rfl, rfl⟩⟩, Below.refl _ _⟩
  · rw [numF, if_neg h]
    obtain ⟨y, rfl⟩ := Int.eq_ofNat_of_zero_le hx.1
    obtain ⟨n, rfl⟩ := Int.eq_ofNat_of_zero_le (show 0 ≤ size by omega)
    exact num_ok y n w (by omega) (by omega) (by omega)

set_option maxHeartbeats 1000000 in
theorem refNum_bad (x size : Int) (w : World) (h : size < 1 ∨ 8 < size) :
    Calls Tryd.prog 22 #[.int .u64 x, .int .i64 size] w fun e w' => e = .returned (.string (strOf [])) ∧ w = w' := by
  rcases h with h | h
  · go_enter Tryd.func22, Tryd.ntmps22
    go_wp2
    go_ret
    exact ⟨rfl, rfl⟩
  · have h' : ¬ size < 1 := by omega
    go_enter Tryd.func22, Tryd.ntmps22
    go_wp2
    go_ret
    exact ⟨rfl, rfl⟩

set_option maxHeartbeats 1000000 in
theorem refNum_ok (x : Nat) (n : Nat) (w : World) (hx : x < 18446744073709551616) (h1 : 1 ≤ n) (h8 : n ≤ 8) :
    Calls Tryd.prog 22 #[.int .u64 x, .int .i64 n] w (RetStr w (beBytes x n)) := by
  go_enter Tryd.func22, Tryd.ntmps22
  go_wp2
  go_loopw [0, 5, 6] (fun xx s i wr => ∃ k : Nat, k ≤ n ∧ i = .int .i64 k ∧ xx = .int .u64 ((x / 256 ^ k : Nat) : Int) ∧ s = .string (strOf (beBytes x k)) ∧ Below w.heap.size w wr) (fun _ _ i _ => n - (intOf i).toNat)
  case atStart => exact ⟨0, Nat.zero_le _, rfl, by simp, rfl, Below.refl _ _⟩
  case round =>
    obtain ⟨k, hk, rfl, rfl, rfl, hb⟩ := hrel
    by_cases hlt : k < n
    · have hdiv := Lib.hid (show x / 256 ^ (k + 1) = x / 256 ^ k / 256 by rw [Nat.pow_succ, Nat.div_div_eq_div_mul])
      have hle : x / 256 ^ k ≤ x := Nat.div_le_self _ _
      have hcons := Lib.hid (beBytes_cons x k)
      generalize x / 256 ^ k = y at *
      have hby : ((y : Int) % 256) = ((UInt8.ofNat y).toNat : Int) := by rw [UInt8.toNat_ofNat']; simp
      have hcv := conv_one (W := wr) (t := 5) Tryd.underlying25 Tryd.underlying5 Tryd.underlying9 (UInt8.ofNat y)
      rw [← hby] at hcv
      have HB := Lib.hid hby
      clear hby
      have hap := strOf_append [UInt8.ofNat y] (beBytes x k)
      have hsz : (strOf [UInt8.ofNat y]).size + (strOf (beBytes x k)).size ≤ 9223372036854775807 := by
        rw [strOf_size, strOf_size, beBytes_length]; simp; omega
      go_wp2
      go_roundw
      case rel => exact ⟨k + 1, by omega, by go_num, by rw [hdiv.out]; go_num, by rw [hcons.out], hb.alloc hb.size _⟩
      case measure => simp [intOf]; omega
    · obtain rfl : k = n := by omega
      go_wp2
      go_ret
      exact ⟨rfl, hb⟩

theorem refNum_any (x size : Int) (w : World) (hx : 0 ≤ x ∧ x < 18446744073709551616) :
    Calls Tryd.prog 22 #[.int .u64 x, .int .i64 size] w (RetStr w (numF x size)) := by
  by_cases h : size < 1 ∨ 8 < size
  · refine (refNum_bad x size w h).mono ?_
    rintro e w' ⟨rfl, rfl⟩
    rw [numF, if_pos h]
    exact ⟨rfl, Below.refl _ _⟩
  · rw [numF, if_neg h]
    obtain ⟨y, rfl⟩ := Int.eq_ofNat_of_zero_le hx.1
    obtain ⟨n, rfl⟩ := Int.eq_ofNat_of_zero_le (show 0 ≤ size by omega)
    exact refNum_ok y n w (by omega) (by omega) (by omega)

theorem textF_eq (l : List UInt8) : textF l = [UInt8.ofNat (l.take 255).length] ++ l.take 255 := rfl

theorem numF_one (n : Nat) (_hn : n ≤ 255) : numF (n : Int) 1 = [UInt8.ofNat n] := by
  rw [numF, if_neg (by omega)]
  simp [beBytes]

end Go.Proofs.YtoaiiiblakgopaaDoor
