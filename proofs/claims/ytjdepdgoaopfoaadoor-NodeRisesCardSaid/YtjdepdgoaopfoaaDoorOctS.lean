/- The walks of the chapter on numbers and texts as bytes: so many bytes, taken, and what they come to (three instances). -/
import Derived.Test.YtjdepdgoaopfoaaDoorOctT
namespace Go.Proofs.YtjdepdgoaopfoaaDoor
open Go.RowKit

/-- A taker of its own bytes. -/
def TakeOwn (w : World) (l : List UInt8) (e : Ending) (w' : World) : Prop :=
  ∃ a cap, e = .returned (.pointer (some ⟨w'.heap.size - 1, 0, none⟩)) ∧ w'.heap[w'.heap.size - 1]? = some (.cells #[.slice a l.length cap, .int .i64 0] 137 (0, 0)) ∧
    w'.ownsRow w.heap.size 5 1 (.slice a l.length cap) l.length ((toI l).map (Value.int .u8)) ∧ w.heap.size ≤ w'.heap.size - 1 ∧ w'.heap.size - 1 < w'.heap.size ∧ Below w.heap.size w w'

set_option maxRecDepth 100000 in
set_option maxHeartbeats 1000000 in
theorem take_any (a : Option Addr) (len cap : Nat) (l : List UInt8) (w : World) (h : Bs w a len cap l) (hreach : len ≤ 140737488351232) :
    Calls Tryd.prog 49 #[.slice a len cap] w fun e w' => e = .returned (.pointer (some ⟨w'.heap.size - 1, 0, none⟩)) ∧ Tk w' (w'.heap.size - 1) ⟨l, 0⟩ ∧ w.heap.size ≤ w'.heap.size - 1 ∧ Below w.heap.size w w' := by
  have hll := Lib.hid h.len
  go_enter Tryd.func49, Tryd.ntmps49
  go_wp2_with fail
  refine (clone_any a len cap l w h hreach).mono ?_
  rintro e w1 ⟨v, rfl, hown, hb⟩
  obtain ⟨a2, cap2, rfl, hbs⟩ := Bs.of_own hown
  clear hown
  go_wp2
  go_ret
  have hs := hb.size
  refine ⟨by simp, ⟨a2, cap2, ?_, hbs.below (Nat.le_refl _) ((Below.refl _ _).alloc (Nat.le_refl _) _)⟩, by simp; omega, hb.alloc hs _⟩
  have := World.alloc_heap_new w1 (.cells #[.slice a2 l.length cap2, .int .i64 0] 137)
  simpa using this

set_option maxRecDepth 100000 in
set_option maxHeartbeats 1000000 in
/-- .. and of what it takes: a row of its own. -/
theorem take_own (a : Option Addr) (len cap : Nat) (l : List UInt8) (w : World) (h : Bs w a len cap l) (hreach : len ≤ 140737488351232) :
    Calls Tryd.prog 49 #[.slice a len cap] w (TakeOwn w l) := by
  have hll := Lib.hid h.len
  go_enter Tryd.func49, Tryd.ntmps49
  go_wp2_with fail
  refine (clone_any a len cap l w h hreach).mono ?_
  rintro e w1 ⟨v, rfl, hown, hb⟩
  obtain ⟨a2, cap2, rfl, _⟩ := own_slice hown
  go_wp2
  go_ret
  have hs := hb.size
  refine ⟨a2, cap2, by simp, ?_, hown.alloc _, by simp; omega, by simp, hb.alloc hs _⟩
  have := World.alloc_heap_new w1 (.cells #[.slice a2 l.length cap2, .int .i64 0] 137)
  simpa using this

/-! ### uint64 -/
set_option maxRecDepth 100000 in
set_option maxHeartbeats 1000000 in
theorem some_u64_nil (n : Int) (w : World) :
    Calls Tryd.prog 76 #[.pointer none, .int .i64 n, .func (.func 77) #[] #[]] w fun e w' => e = .returned (.int .u64 0) ∧ w = w' := by
  go_enter Tryd.func76, Tryd.ntmps76
  go_wp2
  go_ret
  exact ⟨rfl, rfl⟩

set_option maxRecDepth 100000 in
set_option maxHeartbeats 1000000 in
theorem some_u64_err (t : Nat) (s : TSt) (n : Int) (w : World) (h : Tk w t s) (he : s.e ≠ 0) :
    Calls Tryd.prog 76 #[.pointer (some ⟨t, 0, none⟩), .int .i64 n, .func (.func 77) #[] #[]] w fun e w' => e = .returned (.int .u64 0) ∧ w = w' := by
  obtain ⟨a, cap, hblk, hbs⟩ := h
  have hc1 : w.cell? ⟨t, 1, none⟩ = some (.int .i64 s.e) := by simp [World.cell?, hblk]
  have hne : (s.e == 0) = false := by simpa using he
  have hne' : (s.e != 0) = true := by simpa using he
  clear he
  generalize s.e = er at *
  go_enter Tryd.func76, Tryd.ntmps76
  go_wp2
  go_ret
  exact ⟨rfl, rfl⟩

set_option maxRecDepth 100000 in
set_option maxHeartbeats 1000000 in
theorem some_u64_any (t : Nat) (s : TSt) (n : Nat) (w : World) (h : Tk w t s) (h8 : n ≤ 8) (hreach : s.l.length ≤ 140737488351232) :
    Calls Tryd.prog 76 #[.pointer (some ⟨t, 0, none⟩), .int .i64 n, .func (.func 77) #[] #[]] w (TkPost w t (fun _ v => v = .int .u64 (beVal (takeF s n).1)) (takeF s n).2) := by
  by_cases he : s.e ≠ 0
  · refine (some_u64_err t s n w h he).mono ?_
    rintro e w' ⟨rfl, rfl⟩
    refine ⟨_, rfl, ?_, grown_below (Below.refl _ _) _, ?_⟩
    · simp only [takeF, if_pos he]; try rfl
    · simp only [takeF, if_pos he]; exact h
  · obtain ⟨sl, se⟩ := s
    obtain rfl : se = 0 := by simpa using he
    clear he
    have hT := h
    obtain ⟨a, cap, hblk, hbs⟩ := h
    dsimp only at hbs hblk hreach
    have hc0 : w.cell? ⟨t, 0, none⟩ = some (.slice a sl.length cap) := by simp [World.cell?, hblk]
    have hc1 : w.cell? ⟨t, 1, none⟩ = some (.int .i64 0) := by simp [World.cell?, hblk]
    have hf0 : w.frozen? ⟨t, 0, none⟩ = false := by simp [World.frozen?, hblk]
    have hf1 : w.frozen? ⟨t, 1, none⟩ = false := by simp [World.frozen?, hblk]
    have hm := hbs.cap
    unfold maxLen at hm
    by_cases hlt : sl.length < n
    · have hts : takeF ⟨sl, 0⟩ n = ([], ⟨sl, 10⟩) := by simp [takeF, hlt]
      rw [hts]
      clear hts
      have hnew : Tk (w.setCell ⟨t, 1, none⟩ (.int .i64 10)) t ⟨sl, 10⟩ :=
        ⟨a, cap, heap_setCell_at 1 (.int .i64 10) hblk, hbs.grown (grown_setCell _ _ _) (bs_ne hblk hbs)⟩
      have hgr := grown_setCell w ⟨t, 1, none⟩ (.int .i64 10)
      clear hblk hbs hT
      go_enter Tryd.func76, Tryd.ntmps76
      go_wp2
      go_ret
      exact ⟨_, rfl, rfl, hgr, hnew⟩
    · have hts : takeF ⟨sl, 0⟩ n = (sl.take n, ⟨sl.drop n, 0⟩) := by simp [takeF, hlt]
      rw [hts]
      clear hts
      obtain ⟨a2, ha2, hsl⟩ := slice_from elem_bytes size_bytes a sl.length cap n (by omega)
      have q1 := hbs.take n (by omega)
      have q2 := hbs.drop n (by omega)
      rw [← ha2] at q2
      clear ha2
      have hgr := grown_setCell w ⟨t, 0, none⟩ (.slice a2 (sl.length - n) (cap - n))
      have hnew : Tk (w.setCell ⟨t, 0, none⟩ (.slice a2 (sl.length - n) (cap - n))) t ⟨sl.drop n, 0⟩ :=
        ⟨a2, cap - n, by rw [List.length_drop]; exact heap_setCell_at 0 (.slice a2 (sl.length - n) (cap - n)) hblk, by rw [List.length_drop]; exact q2.grown hgr (bs_ne hblk q2)⟩
      have q1' := q1.grown hgr (bs_ne hblk q1)
      clear hblk hbs hT q1 q2
      go_enter Tryd.func76, Tryd.ntmps76
      go_wp2_with fail
      refine (num1_any _ _ _ _ _ q1' h8).mono ?_
      rintro e w2 ⟨rfl, rfl⟩
      go_wp2
      go_ret
      exact ⟨_, rfl, rfl, hgr, hnew⟩
/-! ### string -/
set_option maxRecDepth 100000 in
set_option maxHeartbeats 1000000 in
theorem some_str_nil (n : Int) (w : World) :
    Calls Tryd.prog 81 #[.pointer none, .int .i64 n, .func (.func 82) #[] #[]] w fun e w' => e = .returned (.string (strOf [])) ∧ w = w' := by
  go_enter Tryd.func81, Tryd.ntmps81
  go_wp2
  go_ret
  exact ⟨rfl, rfl⟩

set_option maxRecDepth 100000 in
set_option maxHeartbeats 1000000 in
theorem some_str_err (t : Nat) (s : TSt) (n : Int) (w : World) (h : Tk w t s) (he : s.e ≠ 0) :
    Calls Tryd.prog 81 #[.pointer (some ⟨t, 0, none⟩), .int .i64 n, .func (.func 82) #[] #[]] w fun e w' => e = .returned (.string (strOf [])) ∧ w = w' := by
  obtain ⟨a, cap, hblk, hbs⟩ := h
  have hc1 : w.cell? ⟨t, 1, none⟩ = some (.int .i64 s.e) := by simp [World.cell?, hblk]
  have hne : (s.e == 0) = false := by simpa using he
  have hne' : (s.e != 0) = true := by simpa using he
  clear he
  generalize s.e = er at *
  go_enter Tryd.func81, Tryd.ntmps81
  go_wp2
  go_ret
  exact ⟨rfl, rfl⟩

set_option maxRecDepth 100000 in
set_option maxHeartbeats 1000000 in
theorem some_str_any (t : Nat) (s : TSt) (n : Nat) (w : World) (h : Tk w t s) (hreach : s.l.length ≤ 140737488351232) :
    Calls Tryd.prog 81 #[.pointer (some ⟨t, 0, none⟩), .int .i64 n, .func (.func 82) #[] #[]] w (TkPost w t (fun _ v => v = .string (strOf (takeF s n).1)) (takeF s n).2) := by
  by_cases he : s.e ≠ 0
  · refine (some_str_err t s n w h he).mono ?_
    rintro e w' ⟨rfl, rfl⟩
    refine ⟨_, rfl, ?_, grown_below (Below.refl _ _) _, ?_⟩
    · simp only [takeF, if_pos he]; try rfl
    · simp only [takeF, if_pos he]; exact h
  · obtain ⟨sl, se⟩ := s
    obtain rfl : se = 0 := by simpa using he
    clear he
    have hT := h
    obtain ⟨a, cap, hblk, hbs⟩ := h
    dsimp only at hbs hblk hreach
    have hc0 : w.cell? ⟨t, 0, none⟩ = some (.slice a sl.length cap) := by simp [World.cell?, hblk]
    have hc1 : w.cell? ⟨t, 1, none⟩ = some (.int .i64 0) := by simp [World.cell?, hblk]
    have hf0 : w.frozen? ⟨t, 0, none⟩ = false := by simp [World.frozen?, hblk]
    have hf1 : w.frozen? ⟨t, 1, none⟩ = false := by simp [World.frozen?, hblk]
    have hm := hbs.cap
    unfold maxLen at hm
    by_cases hlt : sl.length < n
    · have hts : takeF ⟨sl, 0⟩ n = ([], ⟨sl, 10⟩) := by simp [takeF, hlt]
      rw [hts]
      clear hts
      have hnew : Tk (w.setCell ⟨t, 1, none⟩ (.int .i64 10)) t ⟨sl, 10⟩ :=
        ⟨a, cap, heap_setCell_at 1 (.int .i64 10) hblk, hbs.grown (grown_setCell _ _ _) (bs_ne hblk hbs)⟩
      have hgr := grown_setCell w ⟨t, 1, none⟩ (.int .i64 10)
      clear hblk hbs hT
      go_enter Tryd.func81, Tryd.ntmps81
      go_wp2
      go_ret
      exact ⟨_, rfl, rfl, hgr, hnew⟩
    · have hts : takeF ⟨sl, 0⟩ n = (sl.take n, ⟨sl.drop n, 0⟩) := by simp [takeF, hlt]
      rw [hts]
      clear hts
      obtain ⟨a2, ha2, hsl⟩ := slice_from elem_bytes size_bytes a sl.length cap n (by omega)
      have q1 := hbs.take n (by omega)
      have q2 := hbs.drop n (by omega)
      rw [← ha2] at q2
      clear ha2
      have hgr := grown_setCell w ⟨t, 0, none⟩ (.slice a2 (sl.length - n) (cap - n))
      have hnew : Tk (w.setCell ⟨t, 0, none⟩ (.slice a2 (sl.length - n) (cap - n))) t ⟨sl.drop n, 0⟩ :=
        ⟨a2, cap - n, by rw [List.length_drop]; exact heap_setCell_at 0 (.slice a2 (sl.length - n) (cap - n)) hblk, by rw [List.length_drop]; exact q2.grown hgr (bs_ne hblk q2)⟩
      have q1' := q1.grown hgr (bs_ne hblk q1)
      clear hblk hbs hT q1 q2
      go_enter Tryd.func81, Tryd.ntmps81
      go_wp2_with fail
      refine (text1_any _ _ _ _ _ q1' ).mono ?_
      rintro e w2 ⟨rfl, rfl⟩
      go_wp2
      go_ret
      exact ⟨_, rfl, rfl, hgr, hnew⟩
/-! ### []byte -/
set_option maxRecDepth 100000 in
set_option maxHeartbeats 1000000 in
theorem some_bytes_nil (n : Int) (w : World) :
    Calls Tryd.prog 111 #[.pointer none, .int .i64 n, .func (.func 75) #[] #[]] w fun e w' => e = .returned (.slice none 0 0) ∧ w = w' := by
  go_enter Tryd.func111, Tryd.ntmps111
  go_wp2
  go_ret
  exact ⟨rfl, rfl⟩

set_option maxRecDepth 100000 in
set_option maxHeartbeats 1000000 in
theorem some_bytes_err (t : Nat) (s : TSt) (n : Int) (w : World) (h : Tk w t s) (he : s.e ≠ 0) :
    Calls Tryd.prog 111 #[.pointer (some ⟨t, 0, none⟩), .int .i64 n, .func (.func 75) #[] #[]] w fun e w' => e = .returned (.slice none 0 0) ∧ w = w' := by
  obtain ⟨a, cap, hblk, hbs⟩ := h
  have hc1 : w.cell? ⟨t, 1, none⟩ = some (.int .i64 s.e) := by simp [World.cell?, hblk]
  have hne : (s.e == 0) = false := by simpa using he
  have hne' : (s.e != 0) = true := by simpa using he
  clear he
  generalize s.e = er at *
  go_enter Tryd.func111, Tryd.ntmps111
  go_wp2
  go_ret
  exact ⟨rfl, rfl⟩

set_option maxRecDepth 100000 in
set_option maxHeartbeats 1000000 in
theorem some_bytes_any (t : Nat) (s : TSt) (n : Nat) (w : World) (h : Tk w t s) (hreach : s.l.length ≤ 140737488351232) :
    Calls Tryd.prog 111 #[.pointer (some ⟨t, 0, none⟩), .int .i64 n, .func (.func 75) #[] #[]] w (TkPost w t (fun w' v => w'.ownsRow w.heap.size 5 1 v (takeF s n).1.length ((toI (takeF s n).1).map (Value.int .u8))) (takeF s n).2) := by
  by_cases he : s.e ≠ 0
  · refine (some_bytes_err t s n w h he).mono ?_
    rintro e w' ⟨rfl, rfl⟩
    refine ⟨_, rfl, ?_, grown_below (Below.refl _ _) _, ?_⟩
    · simp only [takeF, if_pos he]; exact ⟨rfl, .inl ⟨rfl, rfl⟩⟩
    · simp only [takeF, if_pos he]; exact h
  · obtain ⟨sl, se⟩ := s
    obtain rfl : se = 0 := by simpa using he
    clear he
    have hT := h
    obtain ⟨a, cap, hblk, hbs⟩ := h
    dsimp only at hbs hblk hreach
    have hc0 : w.cell? ⟨t, 0, none⟩ = some (.slice a sl.length cap) := by simp [World.cell?, hblk]
    have hc1 : w.cell? ⟨t, 1, none⟩ = some (.int .i64 0) := by simp [World.cell?, hblk]
    have hf0 : w.frozen? ⟨t, 0, none⟩ = false := by simp [World.frozen?, hblk]
    have hf1 : w.frozen? ⟨t, 1, none⟩ = false := by simp [World.frozen?, hblk]
    have hm := hbs.cap
    unfold maxLen at hm
    by_cases hlt : sl.length < n
    · have hts : takeF ⟨sl, 0⟩ n = ([], ⟨sl, 10⟩) := by simp [takeF, hlt]
      rw [hts]
      clear hts
      have hnew : Tk (w.setCell ⟨t, 1, none⟩ (.int .i64 10)) t ⟨sl, 10⟩ :=
        ⟨a, cap, heap_setCell_at 1 (.int .i64 10) hblk, hbs.grown (grown_setCell _ _ _) (bs_ne hblk hbs)⟩
      have hgr := grown_setCell w ⟨t, 1, none⟩ (.int .i64 10)
      clear hblk hbs hT
      go_enter Tryd.func111, Tryd.ntmps111
      go_wp2
      go_ret
      exact ⟨_, rfl, ⟨rfl, .inl ⟨rfl, rfl⟩⟩, hgr, hnew⟩
    · have hts : takeF ⟨sl, 0⟩ n = (sl.take n, ⟨sl.drop n, 0⟩) := by simp [takeF, hlt]
      rw [hts]
      clear hts
      obtain ⟨a2, ha2, hsl⟩ := slice_from elem_bytes size_bytes a sl.length cap n (by omega)
      have q1 := hbs.take n (by omega)
      have q2 := hbs.drop n (by omega)
      rw [← ha2] at q2
      clear ha2
      have hgr := grown_setCell w ⟨t, 0, none⟩ (.slice a2 (sl.length - n) (cap - n))
      have hnew : Tk (w.setCell ⟨t, 0, none⟩ (.slice a2 (sl.length - n) (cap - n))) t ⟨sl.drop n, 0⟩ :=
        ⟨a2, cap - n, by rw [List.length_drop]; exact heap_setCell_at 0 (.slice a2 (sl.length - n) (cap - n)) hblk, by rw [List.length_drop]; exact q2.grown hgr (bs_ne hblk q2)⟩
      have q1' := q1.grown hgr (bs_ne hblk q1)
      clear hblk hbs hT q1 q2
      go_enter Tryd.func111, Tryd.ntmps111
      go_wp2_with fail
      refine (clone_any _ _ _ _ _ q1' (by omega)).mono ?_
      rintro e w2 ⟨v, rfl, hown, hb⟩
      have hsz : (w.setCell ⟨t, 0, none⟩ (.slice a2 (sl.length - n) (cap - n))).heap.size = w.heap.size := by simp [World.setCell]
      rw [hsz] at hown
      have hnew' := hnew.below (Nat.le_refl _) hb
      have hgr' := grown_trans hgr (grown_below hb (some t))
      clear hb hnew hgr hsz
      go_wp2
      go_ret
      exact ⟨_, rfl, hown, hgr', hnew'⟩
end Go.Proofs.YtjdepdgoaopfoaaDoor
