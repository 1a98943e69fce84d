/- The walks of the chapter on numbers and texts as bytes. -/
import Derived.Test.YtjdepdgoaopfoaaDoorBytes
import Derived.Test.YtjdepdgoaopfoaaDoorOctSpec
namespace Go.Proofs.YtjdepdgoaopfoaaDoor
open Go.RowKit

theorem info_u8 : (Tryd.prog.info? 5).map (fun i => (i.zero, i.size, i.bytes)) = some (some (.int .u8 0), 1, 1) := by kernel_rfl

set_option maxRecDepth 100000 in
set_option maxHeartbeats 1000000 in
theorem num_bad (x size : Int) (w : World) (h : size < 1 ∨ 8 < size) :
    Calls Tryd.prog 40 #[.int .u64 x, .int .i64 size] w fun e w' => e = .returned (.slice none 0 0) ∧ w = w' := by
  rcases h with h | h
  · go_enter Tryd.func40, Tryd.ntmps40
    go_wp2
    go_ret
    exact ⟨rfl, rfl⟩
  · have h' : ¬ size < 1 := by omega
    go_enter Tryd.func40, Tryd.ntmps40
    go_wp2
    go_ret
    exact ⟨rfl, rfl⟩

set_option maxRecDepth 100000 in
set_option maxHeartbeats 1000000 in
theorem num_ok (x : Nat) (n : Nat) (w : World) (_hx : x < 18446744073709551616) (h1 : 1 ≤ n) (h8 : n ≤ 8) :
    Calls Tryd.prog 40 #[.int .u64 x, .int .i64 n] w (OwnBytes 5 w (beBytes x n)) := by
  obtain ⟨i0, hi, hz0, hz1, hz2⟩ := info_parts info_u8
  go_enter Tryd.func40, Tryd.ntmps40
  go_wp2_with (at_make; refine wpList_make_full _ rfl _ _ 26 rfl w.heap.size 5 i0 _ 1 Tryd.underlying26 hi hz0 hz1 .i64 .i64 _ _ n rfl rfl rfl rfl (by rw [hz2]; omega) (by unfold maxLen; omega) (Nat.le_refl _) ?_)
  intro w1 hown hg
  have hB := (Below.refl w.heap.size w).grown hg (Nat.le_refl _) (fun k e => by cases e)
  clear hg
  have hown' : w1.ownsRow w.heap.size 5 1 (.slice (some ⟨w.heap.size, 0, none⟩) n n) n ((toI (List.replicate (n - 0) 0 ++ beBytes x 0)).map (Value.int .u8)) := by
    simp only [made_list] at hown
    simpa [beBytes, toI] using hown
  clear hown
  go_wp2
  go_loopw [17] (fun i wr => ∃ k : Nat, k ≤ n ∧ i = .int .i64 k ∧ wr.ownsRow w.heap.size 5 1 (.slice (some ⟨w.heap.size, 0, none⟩) n n) n ((toI (List.replicate (n - k) 0 ++ beBytes x k)).map (Value.int .u8)) ∧ Below w.heap.size w wr) (fun i _ => n - (intOf i).toNat)
  case atStart => exact ⟨0, Nat.zero_le _, rfl, hown', hB⟩
  case round =>
    obtain ⟨k, hk, rfl, hr, hb⟩ := hrel
    by_cases hlt : k < n
    · have hc := hr.cellAt (n - 1 - k) (by omega)
      have hf := hr.frozenAt (n - 1 - k)
      have hst := hr.stored (n - 1 - k) (.int .u8 ((x : Int) / 2 ^ (8 * k) % 256))
      have hv := congrArg (Value.int .u8) (be_byte x k)
      have hlist : ((toI (List.replicate (n - k) 0 ++ beBytes x k)).map (Value.int .u8)).set (n - 1 - k) (.int .u8 ((x : Int) / 2 ^ (8 * k) % 256)) = (toI (List.replicate (n - (k + 1)) 0 ++ beBytes x (k + 1))).map (Value.int .u8) := by
        rw [hv, ← be_set x n k hlt]
        simp only [toI, List.map_set]
      rw [hlist] at hst
      have hst := hst.1
      clear hlist hv
      rw [List.getElem?_map, toI, List.getElem?_map, be_at x n k hlt] at hc
      have hc' : wr.cell? ⟨w.heap.size, n - 1 - k, none⟩ = some (.int .u8 0) := hc
      clear hc
      have HS := Lib.hid hst
      clear hst
      go_wp2
      go_roundw
      case rel => exact ⟨k + 1, by omega, by go_num, HS.out, hb.setCell (Nat.le_refl _) _⟩
      case measure => simp [intOf]; omega
    · obtain rfl : k = n := by omega
      have hl := Lib.hid (beBytes_length x k)
      have hr' : wr.ownsRow w.heap.size 5 1 (.slice (some ⟨w.heap.size, 0, none⟩) k k) (beBytes x k).length ((toI (beBytes x k)).map (Value.int .u8)) := by
        rw [hl.out]; simpa using hr
      go_wp2
      go_ret
      exact ⟨_, rfl, hr', hb⟩

theorem num_any (x size : Int) (w : World) (hx : 0 ≤ x ∧ x < 18446744073709551616) :
    Calls Tryd.prog 40 #[.int .u64 x, .int .i64 size] w (OwnBytes 5 w (numF x size)) := by
  by_cases h : size < 1 ∨ 8 < size
  · refine (num_bad x size w h).mono ?_
    rintro e w' ⟨rfl, rfl⟩
    rw [numF, if_pos h]
    exact ⟨_, rfl, ⟨rfl, .inl ⟨rfl, rfl⟩⟩, Below.refl _ _⟩
  · rw [numF, if_neg h]
    obtain ⟨y, rfl⟩ := Int.eq_ofNat_of_zero_le hx.1
    obtain ⟨n, rfl⟩ := Int.eq_ofNat_of_zero_le (show 0 ≤ size by omega)
    exact num_ok y n w (by omega) (by omega) (by omega)

set_option maxRecDepth 100000 in
set_option maxHeartbeats 1000000 in
theorem refNum_bad (x size : Int) (w : World) (h : size < 1 ∨ 8 < size) :
    Calls Tryd.prog 42 #[.int .u64 x, .int .i64 size] w fun e w' => e = .returned (.string (strOf [])) ∧ w = w' := by
  rcases h with h | h
  · go_enter Tryd.func42, Tryd.ntmps42
    go_wp2
    go_ret
    exact ⟨rfl, rfl⟩
  · have h' : ¬ size < 1 := by omega
    go_enter Tryd.func42, Tryd.ntmps42
    go_wp2
    go_ret
    exact ⟨rfl, rfl⟩

set_option maxRecDepth 100000 in
set_option maxHeartbeats 1000000 in
theorem refNum_ok (x : Nat) (n : Nat) (w : World) (hx : x < 18446744073709551616) (h1 : 1 ≤ n) (h8 : n ≤ 8) :
    Calls Tryd.prog 42 #[.int .u64 x, .int .i64 n] w (RetStr w (beBytes x n)) := by
  go_enter Tryd.func42, Tryd.ntmps42
  go_wp2
  go_loopw [0, 5, 6] (fun xx s i wr => ∃ k : Nat, k ≤ n ∧ i = .int .i64 k ∧ xx = .int .u64 ((x / 256 ^ k : Nat) : Int) ∧ s = .string (strOf (beBytes x k)) ∧ Below w.heap.size w wr) (fun _ _ i _ => n - (intOf i).toNat)
  case atStart => exact ⟨0, Nat.zero_le _, rfl, by simp, rfl, Below.refl _ _⟩
  case round =>
    obtain ⟨k, hk, rfl, rfl, rfl, hb⟩ := hrel
    by_cases hlt : k < n
    · have hdiv := Lib.hid (show x / 256 ^ (k + 1) = x / 256 ^ k / 256 by rw [Nat.pow_succ, Nat.div_div_eq_div_mul])
      have hle : x / 256 ^ k ≤ x := Nat.div_le_self _ _
      have hcons := Lib.hid (beBytes_cons x k)
      generalize x / 256 ^ k = y at *
      have hby : ((y : Int) % 256) = ((UInt8.ofNat y).toNat : Int) := by rw [UInt8.toNat_ofNat']; simp
      have hcv := conv_one (W := wr) (t := 5) Tryd.underlying26 Tryd.underlying5 Tryd.underlying9 (UInt8.ofNat y)
      rw [← hby] at hcv
      have HB := Lib.hid hby
      clear hby
      have hap := strOf_append [UInt8.ofNat y] (beBytes x k)
      have hsz : (strOf [UInt8.ofNat y]).size + (strOf (beBytes x k)).size ≤ 9223372036854775807 := by
        rw [strOf_size, strOf_size, beBytes_length]; simp; omega
      go_wp2
      go_roundw
      case rel => exact ⟨k + 1, by omega, by go_num, by rw [hdiv.out]; go_num, by rw [hcons.out], hb.alloc hb.size _⟩
      case measure => simp [intOf]; omega
    · obtain rfl : k = n := by omega
      go_wp2
      go_ret
      exact ⟨rfl, hb⟩

theorem refNum_any (x size : Int) (w : World) (hx : 0 ≤ x ∧ x < 18446744073709551616) :
    Calls Tryd.prog 42 #[.int .u64 x, .int .i64 size] w (RetStr w (numF x size)) := by
  by_cases h : size < 1 ∨ 8 < size
  · refine (refNum_bad x size w h).mono ?_
    rintro e w' ⟨rfl, rfl⟩
    rw [numF, if_pos h]
    exact ⟨rfl, Below.refl _ _⟩
  · rw [numF, if_neg h]
    obtain ⟨y, rfl⟩ := Int.eq_ofNat_of_zero_le hx.1
    obtain ⟨n, rfl⟩ := Int.eq_ofNat_of_zero_le (show 0 ≤ size by omega)
    exact refNum_ok y n w (by omega) (by omega) (by omega)

theorem textF_eq (l : List UInt8) : textF l = [UInt8.ofNat (l.take 255).length] ++ l.take 255 := rfl

theorem numF_one (n : Nat) (_hn : n ≤ 255) : numF (n : Int) 1 = [UInt8.ofNat n] := by
  rw [numF, if_neg (by omega)]
  simp [beBytes]

set_option maxRecDepth 100000 in
set_option maxHeartbeats 1000000 in
theorem refText_any (l : List UInt8) (w : World) (hl : l.length ≤ 9223372036854775807) :
    Calls Tryd.prog 58 #[.string (strOf l)] w (RetStr w (textF l)) := by
  have hsz := strOf_size l
  have hx := strOf_extract l 0 255
  rw [List.drop_zero, Nat.sub_zero] at hx
  have ht : (l.take 255).length ≤ 255 := by simp; omega
  have hT := textF_eq l
  have hall : l.length ≤ 255 → l.take 255 = l := fun h => List.take_of_length_le h
  generalize l.take 255 = t at *
  have hN := Lib.hid (numF_one t.length ht)
  have HT := Lib.hid hT
  have HALL := Lib.hid hall
  clear hT hall
  have hap := strOf_append [UInt8.ofNat t.length] t
  have hlen := strOf_size t
  have hbnd : (strOf [UInt8.ofNat t.length]).size + (strOf t).size ≤ 9223372036854775807 := by
    rw [strOf_size, strOf_size]; simp; omega
  by_cases h255 : 255 < l.length
  · clear HALL
    go_enter Tryd.func58, Tryd.ntmps58
    go_wp2_with fail
    refine (refNum_any _ _ _ (by omega)).mono ?_
    rintro e w1 ⟨rfl, hb⟩
    rw [hN.out]
    go_wp2
    go_ret
    exact ⟨by rw [HT.out]; rfl, hb⟩
  · obtain rfl := HALL.out (by omega)
    go_enter Tryd.func58, Tryd.ntmps58
    go_wp2_with fail
    refine (refNum_any _ _ _ (by omega)).mono ?_
    rintro e w1 ⟨rfl, hb⟩
    rw [hN.out]
    go_wp2
    go_ret
    exact ⟨by rw [HT.out]; rfl, hb⟩

set_option maxRecDepth 100000 in
set_option maxHeartbeats 1000000 in
theorem text_any (l : List UInt8) (w : World) (hl : l.length ≤ 9223372036854775807) :
    Calls Tryd.prog 57 #[.string (strOf l)] w (OwnBytes 5 w (textF l)) := by
  obtain ⟨i0, hi, hz0, hz1, hz2⟩ := info_parts info_u8
  have hsz := strOf_size l
  have hx := strOf_extract l 0 (min l.length 255)
  have htk : (l.drop 0).take (min l.length 255 - 0) = l.take 255 := by
    rw [List.drop_zero, Nat.sub_zero]
    by_cases h : l.length ≤ 255
    · rw [Nat.min_eq_left h, List.take_length, List.take_of_length_le h]
    · rw [Nat.min_eq_right (by omega)]
  rw [htk] at hx
  clear htk
  have ht : (l.take 255).length ≤ 255 := by simp; omega
  have HT := Lib.hid (textF_eq l)
  generalize l.take 255 = t at *
  have hlen := strOf_size t
  have hmin : min l.length 255 = 255 ∨ min l.length 255 = l.length := by omega
  have hcase : (255 < l.length ∧ min l.length 255 = 255) ∨ (¬ 255 < l.length ∧ min l.length 255 = l.length) := by omega
  clear hmin
  rcases hcase with ⟨h255, e⟩ | ⟨h255, e⟩
  all_goals
    rw [e] at hx
    clear e
    go_enter Tryd.func57, Tryd.ntmps57
    go_wp2_with (at_builtin; refine Lib.wpList_append_own_string _ rfl _ _ 26 9 rfl w.heap.size 5 i0 Tryd.underlying26 Tryd.underlying9 hi hz0 hz1 hz2 _ 1 [.int .u8 (t.length : Int)] rfl (own_made .u8 w 5 [(t.length : Int)] rfl (Nat.le_refl _) (by unfold maxLen; simp)) (strOf t) rfl (by rw [hlen]; unfold maxLen; omega) (by rw [hlen]; omega) (by simp) ?_)
    intro v2 w2 hown hg _
    have hB := ((Below.refl w.heap.size w).alloc (Nat.le_refl _) (.cells #[.int .u8 (t.length : Int)] 5)).grown hg (by simp) (fun k e => by cases e; exact Nat.le_refl _)
    clear hg
    have hown' : w2.ownsRow w.heap.size 5 1 v2 (textF l).length ((toI (textF l)).map (Value.int .u8)) := by
      rw [HT.out]
      have e : ((UInt8.ofNat t.length).toNat : Int) = (t.length : Int) := by rw [UInt8.toNat_ofNat']; omega
      have e2 : ([UInt8.ofNat t.length] ++ t).length = 1 + t.length := by simp; omega
      rw [strCells_strOf] at hown
      rw [e2, ← toI_append, List.map_append]
      have e3 : toI [UInt8.ofNat t.length] = [(t.length : Int)] := by simp only [toI, List.map_cons, List.map_nil, e]
      rw [e3]
      exact hown
    clear hown
    go_wp2
    go_ret
    exact ⟨_, rfl, hown', hB⟩
end Go.Proofs.YtjdepdgoaopfoaaDoor
