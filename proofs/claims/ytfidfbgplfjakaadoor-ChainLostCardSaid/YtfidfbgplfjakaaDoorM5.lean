/- Texts that other texts of this claim lean on, one behind the other. -/
import Derived.Test.YtfidfbgplfjakaaDoorM4
import Derived.Test.YtfidfbgplfjakaaDoorM1
import Derived.Test.YtfidfbgplfjakaaDoorM3
import Derived.Outline
import Derived.Maps.Own
import Derived.Maps.OwnOps
import Derived.Maps.Views
/- The walks of the chapter on numbers and texts as bytes: so many bytes, taken, and what they come to (three instances). -/
namespace Go.Proofs.YtfidfbgplfjakaaDoor
open Go.RowKit

/-- A taker of its own bytes. -/
def TakeOwn (w : World) (l : List UInt8) (e : Ending) (w' : World) : Prop :=
  ∃ a cap, e = .returned (.pointer (some ⟨w'.heap.size - 1, 0, none⟩)) ∧ w'.heap[w'.heap.size - 1]? = some (.cells #[.slice a l.length cap, .int .i64 0] 129 (0, 0)) ∧
    w'.ownsRow w.heap.size 5 1 (.slice a l.length cap) l.length ((toI l).map (Value.int .u8)) ∧ w.heap.size ≤ w'.heap.size - 1 ∧ w'.heap.size - 1 < w'.heap.size ∧ Below w.heap.size w w'

set_option maxRecDepth 100000 in
set_option maxHeartbeats 1000000 in
theorem take_any (a : Option Addr) (len cap : Nat) (l : List UInt8) (w : World) (h : Bs w a len cap l) (hreach : len ≤ 140737488351232) :
    Calls Tryd.prog 54 #[.slice a len cap] w fun e w' => e = .returned (.pointer (some ⟨w'.heap.size - 1, 0, none⟩)) ∧ Tk w' (w'.heap.size - 1) ⟨l, 0⟩ ∧ w.heap.size ≤ w'.heap.size - 1 ∧ Below w.heap.size w w' := by
  have hll := Lib.hid h.len
  go_enter Tryd.func54, Tryd.ntmps54
  go_wp2_with fail
  refine (clone_any a len cap l w h hreach).mono ?_
  rintro e w1 ⟨v, rfl, hown, hb⟩
  obtain ⟨a2, cap2, rfl, hbs⟩ := Bs.of_own hown
  clear hown
  go_wp2
  go_ret
  have hs := hb.size
  refine ⟨by simp, ⟨a2, cap2, ?_, hbs.below (Nat.le_refl _) ((Below.refl _ _).alloc (Nat.le_refl _) _)⟩, by simp; omega, hb.alloc hs _⟩
  have := World.alloc_heap_new w1 (.cells #[.slice a2 l.length cap2, .int .i64 0] 129)
  simpa using this

set_option maxRecDepth 100000 in
set_option maxHeartbeats 1000000 in
/-- .. and of what it takes: a row of its own. -/
theorem take_own (a : Option Addr) (len cap : Nat) (l : List UInt8) (w : World) (h : Bs w a len cap l) (hreach : len ≤ 140737488351232) :
    Calls Tryd.prog 54 #[.slice a len cap] w (TakeOwn w l) := by
  have hll := Lib.hid h.len
  go_enter Tryd.func54, Tryd.ntmps54
  go_wp2_with fail
  refine (clone_any a len cap l w h hreach).mono ?_
  rintro e w1 ⟨v, rfl, hown, hb⟩
  obtain ⟨a2, cap2, rfl, _⟩ := own_slice hown
  go_wp2
  go_ret
  have hs := hb.size
  refine ⟨a2, cap2, by simp, ?_, hown.alloc _, by simp; omega, by simp, hb.alloc hs _⟩
  have := World.alloc_heap_new w1 (.cells #[.slice a2 l.length cap2, .int .i64 0] 129)
  simpa using this

/-! ### uint64 -/
set_option maxRecDepth 100000 in
set_option maxHeartbeats 1000000 in
theorem some_u64_nil (n : Int) (w : World) :
    Calls Tryd.prog 64 #[.pointer none, .int .i64 n, .func (.func 65) #[] #[]] w fun e w' => e = .returned (.int .u64 0) ∧ w = w' := by
  go_enter Tryd.func64, Tryd.ntmps64
  go_wp2
  go_ret
  exact ⟨rfl, rfl⟩

set_option maxRecDepth 100000 in
set_option maxHeartbeats 1000000 in
theorem some_u64_err (t : Nat) (s : TSt) (n : Int) (w : World) (h : Tk w t s) (he : s.e ≠ 0) :
    Calls Tryd.prog 64 #[.pointer (some ⟨t, 0, none⟩), .int .i64 n, .func (.func 65) #[] #[]] w fun e w' => e = .returned (.int .u64 0) ∧ w = w' := by
  obtain ⟨a, cap, hblk, hbs⟩ := h
  have hc1 : w.cell? ⟨t, 1, none⟩ = some (.int .i64 s.e) := by simp [World.cell?, hblk]
  have hne : (s.e == 0) = false := by simpa using he
  have hne' : (s.e != 0) = true := by simpa using he
  clear he
  generalize s.e = er at *
  go_enter Tryd.func64, Tryd.ntmps64
  go_wp2
  go_ret
  exact ⟨rfl, rfl⟩

set_option maxRecDepth 100000 in
set_option maxHeartbeats 1000000 in
theorem some_u64_any (t : Nat) (s : TSt) (n : Nat) (w : World) (h : Tk w t s) (h8 : n ≤ 8) (hreach : s.l.length ≤ 140737488351232) :
    Calls Tryd.prog 64 #[.pointer (some ⟨t, 0, none⟩), .int .i64 n, .func (.func 65) #[] #[]] w (TkPost w t (fun _ v => v = .int .u64 (beVal (takeF s n).1)) (takeF s n).2) := by
  by_cases he : s.e ≠ 0
  · refine (some_u64_err t s n w h he).mono ?_
    rintro e w' ⟨rfl, rfl⟩
    refine ⟨_, rfl, ?_, grown_below (Below.refl _ _) _, ?_⟩
    · simp only [takeF, if_pos he]; try rfl
    · simp only [takeF, if_pos he]; exact h
  · obtain ⟨sl, se⟩ := s
    obtain rfl : se = 0 := by simpa using he
    clear he
    have hT := h
    obtain ⟨a, cap, hblk, hbs⟩ := h
    dsimp only at hbs hblk hreach
    have hc0 : w.cell? ⟨t, 0, none⟩ = some (.slice a sl.length cap) := by simp [World.cell?, hblk]
    have hc1 : w.cell? ⟨t, 1, none⟩ = some (.int .i64 0) := by simp [World.cell?, hblk]
    have hf0 : w.frozen? ⟨t, 0, none⟩ = false := by simp [World.frozen?, hblk]
    have hf1 : w.frozen? ⟨t, 1, none⟩ = false := by simp [World.frozen?, hblk]
    have hm := hbs.cap
    unfold maxLen at hm
    by_cases hlt : sl.length < n
    · have hts : takeF ⟨sl, 0⟩ n = ([], ⟨sl, 10⟩) := by simp [takeF, hlt]
      rw [hts]
      clear hts
      have hnew : Tk (w.setCell ⟨t, 1, none⟩ (.int .i64 10)) t ⟨sl, 10⟩ :=
        ⟨a, cap, heap_setCell_at 1 (.int .i64 10) hblk, hbs.grown (grown_setCell _ _ _) (bs_ne hblk hbs)⟩
      have hgr := grown_setCell w ⟨t, 1, none⟩ (.int .i64 10)
      clear hblk hbs hT
      go_enter Tryd.func64, Tryd.ntmps64
      go_wp2
      go_ret
      exact ⟨_, rfl, rfl, hgr, hnew⟩
    · have hts : takeF ⟨sl, 0⟩ n = (sl.take n, ⟨sl.drop n, 0⟩) := by simp [takeF, hlt]
      rw [hts]
      clear hts
      obtain ⟨a2, ha2, hsl⟩ := slice_from elem_bytes size_bytes a sl.length cap n (by omega)
      have q1 := hbs.take n (by omega)
      have q2 := hbs.drop n (by omega)
      rw [← ha2] at q2
      clear ha2
      have hgr := grown_setCell w ⟨t, 0, none⟩ (.slice a2 (sl.length - n) (cap - n))
      have hnew : Tk (w.setCell ⟨t, 0, none⟩ (.slice a2 (sl.length - n) (cap - n))) t ⟨sl.drop n, 0⟩ :=
        ⟨a2, cap - n, by rw [List.length_drop]; exact heap_setCell_at 0 (.slice a2 (sl.length - n) (cap - n)) hblk, by rw [List.length_drop]; exact q2.grown hgr (bs_ne hblk q2)⟩
      have q1' := q1.grown hgr (bs_ne hblk q1)
      clear hblk hbs hT q1 q2
      go_enter Tryd.func64, Tryd.ntmps64
      go_wp2_with fail
      refine (num1_any _ _ _ _ _ q1' h8).mono ?_
      rintro e w2 ⟨rfl, rfl⟩
      go_wp2
      go_ret
      exact ⟨_, rfl, rfl, hgr, hnew⟩
/-! ### []byte -/
set_option maxRecDepth 100000 in
set_option maxHeartbeats 1000000 in
theorem some_bytes_nil (n : Int) (w : World) :
    Calls Tryd.prog 66 #[.pointer none, .int .i64 n, .func (.func 63) #[] #[]] w fun e w' => e = .returned (.slice none 0 0) ∧ w = w' := by
  go_enter Tryd.func66, Tryd.ntmps66
  go_wp2
  go_ret
  exact ⟨rfl, rfl⟩

set_option maxRecDepth 100000 in
set_option maxHeartbeats 1000000 in
theorem some_bytes_err (t : Nat) (s : TSt) (n : Int) (w : World) (h : Tk w t s) (he : s.e ≠ 0) :
    Calls Tryd.prog 66 #[.pointer (some ⟨t, 0, none⟩), .int .i64 n, .func (.func 63) #[] #[]] w fun e w' => e = .returned (.slice none 0 0) ∧ w = w' := by
  obtain ⟨a, cap, hblk, hbs⟩ := h
  have hc1 : w.cell? ⟨t, 1, none⟩ = some (.int .i64 s.e) := by simp [World.cell?, hblk]
  have hne : (s.e == 0) = false := by simpa using he
  have hne' : (s.e != 0) = true := by simpa using he
  clear he
  generalize s.e = er at *
  go_enter Tryd.func66, Tryd.ntmps66
  go_wp2
  go_ret
  exact ⟨rfl, rfl⟩

set_option maxRecDepth 100000 in
set_option maxHeartbeats 1000000 in
theorem some_bytes_any (t : Nat) (s : TSt) (n : Nat) (w : World) (h : Tk w t s) (hreach : s.l.length ≤ 140737488351232) :
    Calls Tryd.prog 66 #[.pointer (some ⟨t, 0, none⟩), .int .i64 n, .func (.func 63) #[] #[]] w (TkPost w t (fun w' v => w'.ownsRow w.heap.size 5 1 v (takeF s n).1.length ((toI (takeF s n).1).map (Value.int .u8))) (takeF s n).2) := by
  by_cases he : s.e ≠ 0
  · refine (some_bytes_err t s n w h he).mono ?_
    rintro e w' ⟨rfl, rfl⟩
    refine ⟨_, rfl, ?_, grown_below (Below.refl _ _) _, ?_⟩
    · simp only [takeF, if_pos he]; exact ⟨rfl, .inl ⟨rfl, rfl⟩⟩
    · simp only [takeF, if_pos he]; exact h
  · obtain ⟨sl, se⟩ := s
    obtain rfl : se = 0 := by simpa using he
    clear he
    have hT := h
    obtain ⟨a, cap, hblk, hbs⟩ := h
    dsimp only at hbs hblk hreach
    have hc0 : w.cell? ⟨t, 0, none⟩ = some (.slice a sl.length cap) := by simp [World.cell?, hblk]
    have hc1 : w.cell? ⟨t, 1, none⟩ = some (.int .i64 0) := by simp [World.cell?, hblk]
    have hf0 : w.frozen? ⟨t, 0, none⟩ = false := by simp [World.frozen?, hblk]
    have hf1 : w.frozen? ⟨t, 1, none⟩ = false := by simp [World.frozen?, hblk]
    have hm := hbs.cap
    unfold maxLen at hm
    by_cases hlt : sl.length < n
    · have hts : takeF ⟨sl, 0⟩ n = ([], ⟨sl, 10⟩) := by simp [takeF, hlt]
      rw [hts]
      clear hts
      have hnew : Tk (w.setCell ⟨t, 1, none⟩ (.int .i64 10)) t ⟨sl, 10⟩ :=
        ⟨a, cap, heap_setCell_at 1 (.int .i64 10) hblk, hbs.grown (grown_setCell _ _ _) (bs_ne hblk hbs)⟩
      have hgr := grown_setCell w ⟨t, 1, none⟩ (.int .i64 10)
      clear hblk hbs hT
      go_enter Tryd.func66, Tryd.ntmps66
      go_wp2
      go_ret
      exact ⟨_, rfl, ⟨rfl, .inl ⟨rfl, rfl⟩⟩, hgr, hnew⟩
    · have hts : takeF ⟨sl, 0⟩ n = (sl.take n, ⟨sl.drop n, 0⟩) := by simp [takeF, hlt]
      rw [hts]
      clear hts
      obtain ⟨a2, ha2, hsl⟩ := slice_from elem_bytes size_bytes a sl.length cap n (by omega)
      have q1 := hbs.take n (by omega)
      have q2 := hbs.drop n (by omega)
      rw [← ha2] at q2
      clear ha2
      have hgr := grown_setCell w ⟨t, 0, none⟩ (.slice a2 (sl.length - n) (cap - n))
      have hnew : Tk (w.setCell ⟨t, 0, none⟩ (.slice a2 (sl.length - n) (cap - n))) t ⟨sl.drop n, 0⟩ :=
        ⟨a2, cap - n, by rw [List.length_drop]; exact heap_setCell_at 0 (.slice a2 (sl.length - n) (cap - n)) hblk, by rw [List.length_drop]; exact q2.grown hgr (bs_ne hblk q2)⟩
      have q1' := q1.grown hgr (bs_ne hblk q1)
      clear hblk hbs hT q1 q2
      go_enter Tryd.func66, Tryd.ntmps66
      go_wp2_with fail
      refine (clone_any _ _ _ _ _ q1' (by omega)).mono ?_
      rintro e w2 ⟨v, rfl, hown, hb⟩
      have hsz : (w.setCell ⟨t, 0, none⟩ (.slice a2 (sl.length - n) (cap - n))).heap.size = w.heap.size := by simp [World.setCell]
      rw [hsz] at hown
      have hnew' := hnew.below (Nat.le_refl _) hb
      have hgr' := grown_trans hgr (grown_below hb (some t))
      clear hb hnew hgr hsz
      go_wp2
      go_ret
      exact ⟨_, rfl, hown, hgr', hnew'⟩
end Go.Proofs.YtfidfbgplfjakaaDoor

/- The walks of the chapter on numbers and texts as bytes: a taker's methods. -/
namespace Go.Proofs.YtfidfbgplfjakaaDoor
open Go.RowKit

/-! a taker that there isn't -/
set_option maxRecDepth 100000 in
set_option maxHeartbeats 1000000 in
theorem tNum_nil (size : Int) (w : World) :
    Calls Tryd.prog 55 #[.pointer none, .int .i64 size] w fun e w' => e = .returned (.int .u64 0) ∧ w = w' := by
  go_enter Tryd.func55, Tryd.ntmps55
  go_wp2_with (go_at_call 64; refine (some_u64_nil _ _).mono ?_; rintro e w' ⟨rfl, rfl⟩)
  go_ret
  exact ⟨rfl, rfl⟩
set_option maxRecDepth 100000 in
set_option maxHeartbeats 1000000 in
theorem tRest_nil (w : World) :
    Calls Tryd.prog 56 #[.pointer none] w fun e w' => e = .returned (.slice none 0 0) ∧ w = w' := by
  go_enter Tryd.func56, Tryd.ntmps56
  go_wp2
  go_ret
  exact ⟨rfl, rfl⟩
set_option maxRecDepth 100000 in
set_option maxHeartbeats 1000000 in
theorem tErr_nil (w : World) :
    Calls Tryd.prog 57 #[.pointer none] w fun e w' => e = .returned (.int .i64 1) ∧ w = w' := by
  go_enter Tryd.func57, Tryd.ntmps57
  go_wp2
  go_ret
  exact ⟨rfl, rfl⟩
/-! a taker -/
set_option maxRecDepth 100000 in
set_option maxHeartbeats 1000000 in
theorem tErr_any (t : Nat) (s : TSt) (w : World) (h : Tk w t s) :
    Calls Tryd.prog 57 #[.pointer (some ⟨t, 0, none⟩)] w fun e w' => e = .returned (.int .i64 s.e) ∧ w = w' := by
  obtain ⟨a, cap, hblk, hbs⟩ := h
  have hc1 : w.cell? ⟨t, 1, none⟩ = some (.int .i64 s.e) := by simp [World.cell?, hblk]
  go_enter Tryd.func57, Tryd.ntmps57
  go_wp2
  go_ret
  exact ⟨rfl, rfl⟩

set_option maxRecDepth 100000 in
set_option maxHeartbeats 1000000 in
theorem tNum_any (t : Nat) (s : TSt) (size : Int) (w : World) (h : Tk w t s) (hreach : s.l.length ≤ 140737488351232) :
    Calls Tryd.prog 55 #[.pointer (some ⟨t, 0, none⟩), .int .i64 size] w (TkPost w t (fun _ v => v = .int .u64 ((tNum s size).1 : Int)) (tNum s size).2) := by
  have hT := h
  obtain ⟨a, cap, hblk, hbs⟩ := h
  have hc1 : w.cell? ⟨t, 1, none⟩ = some (.int .i64 s.e) := by simp [World.cell?, hblk]
  have hf1 : w.frozen? ⟨t, 1, none⟩ = false := by simp [World.frozen?, hblk]
  by_cases he : s.e = 0
  · by_cases hsz : size < 1 ∨ 8 < size
    · have hr : tNum s size = (0, { s with e := 1 }) := by simp [tNum, he, hsz]
      rw [hr]
      have hnew : Tk (w.setCell ⟨t, 1, none⟩ (.int .i64 1)) t { s with e := 1 } :=
        ⟨a, cap, heap_setCell_at 1 (.int .i64 1) hblk, hbs.grown (grown_setCell _ _ _) (bs_ne hblk hbs)⟩
      have hgr := grown_setCell w ⟨t, 1, none⟩ (.int .i64 1)
      rw [he] at hc1
      clear hr hblk hbs hT he
      rcases hsz with hsz | hsz
      · go_enter Tryd.func55, Tryd.ntmps55
        go_wp2
        go_ret
        exact ⟨_, rfl, rfl, hgr, hnew⟩
      · have hsz' : ¬ size < 1 := by omega
        go_enter Tryd.func55, Tryd.ntmps55
        go_wp2
        go_ret
        exact ⟨_, rfl, rfl, hgr, hnew⟩
    · obtain ⟨n, rfl⟩ := Int.eq_ofNat_of_zero_le (show 0 ≤ size by omega)
      have hr : tNum s (n : Int) = (beVal (takeF s n).1, (takeF s n).2) := by simp only [tNum]; rw [if_neg (fun h => hsz h.2)]; rfl
      rw [hr]
      have hs1 : ¬ (n : Int) < 1 := by omega
      have hs2 : ¬ (8 : Int) < (n : Int) := by omega
      have hcall := some_u64_any t s n w hT (by omega) hreach
      rw [he] at hc1
      clear hr hblk hbs hT he hsz
      go_enter Tryd.func55, Tryd.ntmps55
      go_wp2_with fail
      refine hcall.mono ?_
      rintro e w' ⟨v, rfl, rfl, hgr, hnew⟩
      go_wp2
      go_ret
      exact ⟨_, rfl, rfl, hgr, hnew⟩
  · have hr : tNum s size = (0, s) := by simp [tNum, takeF, he, beVal_nil]
    rw [hr]
    have hcall := some_u64_err t s size w hT he
    have hne : (s.e == 0) = false := by simpa using he
    clear hr hblk hbs he
    generalize s.e = er at *
    go_enter Tryd.func55, Tryd.ntmps55
    go_wp2_with fail
    refine hcall.mono ?_
    rintro e w' ⟨rfl, rfl⟩
    go_wp2
    go_ret
    exact ⟨_, rfl, rfl, grown_below (Below.refl _ _) _, hT⟩

theorem takeF_len (s : TSt) (n : Nat) : (takeF s n).2.l.length ≤ s.l.length := by
  unfold takeF; split
  · exact Nat.le_refl _
  · split
    · exact Nat.le_refl _
    · simp
theorem tNum_len (s : TSt) (size : Int) : (tNum s size).2.l.length ≤ s.l.length := by
  unfold tNum; split
  · exact Nat.le_refl _
  · exact takeF_len _ _
theorem takeF_le (s : TSt) (n : Nat) : (takeF s n).1.length ≤ n := by
  unfold takeF; split
  · simp
  · split
    · simp
    · simp; omega
theorem tNum_lt (s : TSt) (k : Nat) : (tNum s (k : Int)).1 < 256 ^ k := by
  unfold tNum; split
  · exact Nat.pow_pos (by decide)
  · exact Nat.lt_of_lt_of_le (beVal_lt _) (Nat.pow_le_pow_right (by decide) (takeF_le _ _))

set_option maxRecDepth 100000 in
set_option maxHeartbeats 1000000 in
theorem tRest_any (t : Nat) (s : TSt) (w : World) (h : Tk w t s) (hreach : s.l.length ≤ 140737488351232) :
    Calls Tryd.prog 56 #[.pointer (some ⟨t, 0, none⟩)] w (TkPost w t (fun w' v => w'.ownsRow w.heap.size 5 1 v (tRest s).1.length ((toI (tRest s).1).map (Value.int .u8))) (tRest s).2) := by
  have hcall := some_bytes_any t s s.l.length w h hreach
  obtain ⟨a, cap, hblk, hbs⟩ := h
  have hc0 : w.cell? ⟨t, 0, none⟩ = some (.slice a s.l.length cap) := by simp [World.cell?, hblk]
  clear hblk hbs
  go_enter Tryd.func56, Tryd.ntmps56
  go_wp2_with fail
  refine hcall.mono ?_
  rintro e w2 ⟨v, rfl, hown, hgr2, hnew2⟩
  go_wp2
  go_ret
  exact ⟨_, rfl, hown, hgr2, hnew2⟩
end Go.Proofs.YtfidfbgplfjakaaDoor

/- The walks of the chapter on pages of cells: a page is unpacked. -/
namespace Go.Proofs.YtfidfbgplfjakaaDoor
open Go.RowKit

/-! what a page tells -/
def slotS (b : List UInt8) (i : Nat) : Nat := (b[6 + i]?.getD 0).toNat
def endS (b : List UInt8) : Nat → Nat
  | 0 => 128
  | i + 1 => slotS b i
def okS (b : List UInt8) (n : Nat) : Bool := (List.range n).all fun i => decide (slotS b i ≤ endS b i)
def cellS (b : List UInt8) (i : Nat) : List UInt8 := (b.drop (slotS b i)).take (endS b i - slotS b i)
def cutS (b : List UInt8) (n : Nat) : List (List UInt8) := (List.range n).map (cellS b)
def kindS (b : List UInt8) : UInt8 := b[4]?.getD 0
def numS (b : List UInt8) : Nat := (b[5]?.getD 0).toNat
/-- Is it a page, its sum apart? -/
def unpB (b : List UInt8) : Bool := okS b (min (numS b) 122) && (fits (kindS b) (cutS b (min (numS b) 122)) && pageOf (kindS b) (cutS b (min (numS b) 122)) == b)
def unpE (b : List UInt8) : Int := if b.length ≠ 128 then 1 else if beVal (b.take 4) ≠ crcOf (b.drop 4) then 12 else if unpB b then 0 else 11
def unpK (b : List UInt8) : UInt8 := if unpE b = 0 then kindS b else 0
def unpL (b : List UInt8) : List (List UInt8) := if unpE b = 0 then cutS b (min (numS b) 122) else []

theorem okS_succ (b : List UInt8) (n : Nat) : okS b (n + 1) = (okS b n && decide (slotS b n ≤ endS b n)) := by
  simp [okS, List.range_succ]
theorem cutS_succ (b : List UInt8) (n : Nat) : cutS b (n + 1) = cutS b n ++ [cellS b n] := by
  simp [cutS, List.range_succ]
theorem cutS_length (b : List UInt8) (n : Nat) : (cutS b n).length = n := by simp [cutS]
theorem slotS_lt (b : List UInt8) (i : Nat) : slotS b i < 256 := (b[6 + i]?.getD 0).toNat_lt
theorem okS_end (b : List UInt8) (n : Nat) (h : okS b n = true) : endS b n ≤ 128 := by
  induction n with
  | zero => simp [endS]
  | succ n ih =>
    rw [okS_succ, Bool.and_eq_true, decide_eq_true_eq] at h
    have := ih h.1
    rw [show endS b (n + 1) = slotS b n from rfl]; omega
theorem okS_mono (b : List UInt8) {m n : Nat} (h : okS b m = false) (hmn : m ≤ n) : okS b n = false := by
  rw [okS, List.all_eq_false] at h ⊢
  obtain ⟨x, hx, hx2⟩ := h
  exact ⟨x, by simp at hx ⊢; omega, hx2⟩
theorem cellS_length (b : List UInt8) (n : Nat) (hb : b.length = 128) (h : okS b (n + 1) = true) : (cellS b n).length = endS b n - slotS b n := by
  have h1 := okS_end b n (by rw [okS_succ, Bool.and_eq_true] at h; exact h.1)
  simp [cellS]; omega
theorem cutS_lens (b : List UInt8) (n : Nat) (hb : b.length = 128) (h : okS b n = true) : lens (cutS b n) = 128 - endS b n := by
  induction n with
  | zero => simp [cutS, lens, endS]
  | succ n ih =>
    have h0 := h
    rw [okS_succ, Bool.and_eq_true, decide_eq_true_eq] at h
    have h1 := okS_end b n h.1
    rw [cutS_succ, lens_append, lens_one, ih h.1, cellS_length b n hb h0, show endS b (n + 1) = slotS b n from rfl]
    omega

/-! a row of rows of bytes of the call's own -/
def OwnBss (w : World) (base : Nat) (v : Value) (l : List (List UInt8)) : Prop :=
  ∃ vs, w.ownsRow base 31 1 v l.length vs ∧ vs.length = l.length ∧ ∀ (i : Nat) (c : List UInt8), l[i]? = some c → ∃ u, vs[i]? = some u ∧ w.ownsRow base 5 1 u c.length ((toI c).map (Value.int .u8))

theorem own_types {w : World} {b1 b2 s1 s2 n1 n2 : Nat} {e1 e2 : TypeId} {v1 v2 : Value} {xs1 xs2 : List Value} (h1 : w.ownsRow b1 e1 s1 v1 n1 xs1) (h2 : w.ownsRow b2 e2 s2 v2 n2 xs2) (hne : e1 ≠ e2) : v1.ownBlock = none ∨ v1.ownBlock ≠ v2.ownBlock := by
  rcases h1.2 with ⟨rfl, rfl⟩ | ⟨g, cap, cur, rfl, _, hg, _⟩
  · exact .inl rfl
  · right
    rcases h2.2 with ⟨rfl, rfl⟩ | ⟨g2, cap2, cur2, rfl, _, hg2, _⟩
    · intro e; cases e
    · intro e
      have e' : g = g2 := by simpa [Value.ownBlock] using e
      subst e'
      rw [hg] at hg2
      cases hg2
      exact hne rfl
theorem own_below {w w' : World} {base : Nat} {e : TypeId} {size : Nat} {v : Value} {n : Nat} {xs : List Value} {B : Nat} (h : w.ownsRow base e size v n xs) (hB : w.heap.size ≤ B) (hb : Below B w w') : w'.ownsRow base e size v n xs := by
  refine ⟨h.1, h.2.imp id fun ⟨g, cap, cur, e1, hg, hh, r⟩ => ⟨g, cap, cur, e1, hg, ?_, r⟩⟩
  rw [hb.block g (Nat.lt_of_lt_of_le (Array.getElem?_eq_some_iff.1 hh).1 hB)]; exact hh
theorem OwnBss.nil (w : World) (base : Nat) : OwnBss w base (.slice none 0 0) [] := ⟨[], World.ownsRow_nil _ _ _ _, rfl, fun i c h => by simp at h⟩
theorem OwnBss.below {w w' : World} {base : Nat} {v : Value} {l : List (List UInt8)} {B : Nat} (h : OwnBss w base v l) (hB : w.heap.size ≤ B) (hb : Below B w w') : OwnBss w' base v l := by
  obtain ⟨vs, h1, h2, h3⟩ := h
  exact ⟨vs, own_below h1 hB hb, h2, fun i c hc => by obtain ⟨u, e1, e2⟩ := h3 i c hc; exact ⟨u, e1, own_below e2 hB hb⟩⟩
theorem OwnBss.base {w : World} {base b0 : Nat} {v : Value} {l : List (List UInt8)} (h : OwnBss w base v l) (hb : b0 ≤ base) : OwnBss w b0 v l := by
  obtain ⟨vs, h1, h2, h3⟩ := h
  exact ⟨vs, own_base h1 hb, h2, fun i c hc => by obtain ⟨u, e1, e2⟩ := h3 i c hc; exact ⟨u, e1, own_base e2 hb⟩⟩
/-- One more. -/
theorem OwnBss.snoc {w w' : World} {base : Nat} {v v' u : Value} {n : Nat} {l : List (List UInt8)} {c : List UInt8} {vs : List Value} (h1 : w.ownsRow base 31 1 v n vs) (hn : n = l.length)
    (h2 : vs.length = l.length) (h3 : ∀ (i : Nat) (c : List UInt8), l[i]? = some c → ∃ u, vs[i]? = some u ∧ w.ownsRow base 5 1 u c.length ((toI c).map (Value.int .u8)))
    (hu : w.ownsRow base 5 1 u c.length ((toI c).map (Value.int .u8))) (hg : w.grownBy w' v.ownBlock) (h1' : w'.ownsRow base 31 1 v' (n + 1) (vs ++ [u])) : OwnBss w' base v' (l ++ [c]) := by
  refine ⟨vs ++ [u], by rw [List.length_append, ← hn]; exact h1', by simp [h2], fun i d hd => ?_⟩
  by_cases hi : i < l.length
  · rw [List.getElem?_append_left hi] at hd
    obtain ⟨x, e1, e2⟩ := h3 i d hd
    exact ⟨x, by rw [List.getElem?_append_left (by omega)]; exact e1, e2.kept hg (own_types e2 h1 (by decide))⟩
  · have hlen := (List.getElem?_eq_some_iff.1 hd).1
    simp at hlen
    obtain rfl : i = l.length := by omega
    rw [List.getElem?_append_right (Nat.le_refl _), Nat.sub_self] at hd
    cases hd
    exact ⟨u, by rw [List.getElem?_append_right (by omega), h2, Nat.sub_self]; rfl, hu.kept hg (own_types hu h1 (by decide))⟩
theorem OwnBss.bss {w : World} {base : Nat} {v : Value} {l : List (List UInt8)} (h : OwnBss w base v l) : ∃ a cap, v = .slice a l.length cap ∧ Bss w a l.length cap l := by
  obtain ⟨vs, ⟨h1, h2⟩, h3, h4⟩ := h
  simp only [Nat.mul_one] at h1
  rcases h2 with ⟨rfl, h0⟩ | ⟨g, cap, cur, rfl, hb, hg, hn, hm, hc, ht⟩
  · rw [h0]
    exact ⟨none, 0, rfl, h0, Nat.le_refl _, by unfold maxLen; omega, fun _ => rfl, .inl rfl⟩
  · refine ⟨_, cap, rfl, rfl, hn, hm, (fun h => by cases h), .inr ⟨g, 0, rfl, (Array.getElem?_eq_some_iff.1 hg).1, fun i y hy => ?_⟩⟩
    obtain ⟨u, e1, e2⟩ := h4 i y hy
    obtain ⟨a, cp, rfl, hbs⟩ := Bs.of_own e2
    refine ⟨[.slice a y.length cp], rfl, ⟨a, _, cp, rfl, hbs⟩, fun j x hx => ?_⟩
    have hi := (List.getElem?_eq_some_iff.1 hy).1
    match j, hx with
    | 0, hx =>
      cases hx
      simp only [World.cell?, hg, Nat.zero_add, Nat.mul_one, Nat.add_zero]
      have e : (cur.toList.take (l.length * 1))[i]? = cur.toList[i]? := List.getElem?_take_of_lt (by omega)
      rw [ht] at e
      rw [← Array.getElem?_toList, ← e]
      exact e1
    | j + 1, hx => simp at hx

/-- 'b[l:h:m]'. -/
theorem Bs.sub {w : World} {a : Option Addr} {len cap : Nat} {L : List UInt8} (h : Bs w a len cap L) (l r m : Nat) (h1 : l ≤ r) (h2 : r ≤ len) (h3 : r ≤ m) (h4 : m ≤ cap) :
    Bs w (if m = l then a else a.map (·.add (l * 1))) (r - l) (m - l) ((L.drop l).take (r - l)) := by
  have hl := h.len
  have hc := h.cap
  refine ⟨by simp [toI_length]; omega, by omega, by omega, (fun hn => ?_), ?_⟩
  · by_cases e : m = l
    · omega
    · rw [if_neg e] at hn
      have : a = none := by simpa using hn
      have := h.2.2.2.1 this
      omega
  · by_cases e : r = l
    · exact .inl (by omega)
    · obtain ⟨b, off, rfl, hb, hcell⟩ := h.cell (k := l) (by omega)
      refine .inr ⟨b, off + l, by rw [if_neg (by omega)]; simp [add_none], hb, fun i hi => ?_⟩
      rw [toI_get, Nat.add_assoc, hcell (l + i) (by omega)]
      simp [hi]
theorem sub_run {P : Program} {T : TypeId} (hT : P.underlying T = some (.slice (P.elem T))) (hz : ∀ w, (sizeOf (P.elem T)).run P w = .ok 1 w) (a : Option Addr) (len cap l r m : Nat) (h1 : l ≤ r) (h3 : r ≤ m) (h4 : m ≤ cap) :
    ∃ a2, a2 = (if m = l then a else a.map (·.add (l * 1))) ∧ ∀ (k k2 k3 : IntKind) w, (Instr.slice T (.slice a len cap) (some (.int k l)) (some (.int k2 r)) (some (.int k3 m))).run P w = .ok (.slice a2 (r - l) (m - l)) w := by
  refine ⟨_, rfl, fun k k2 k3 w => ?_⟩
  rw [run_slice_lhm w T a len cap hT k k2 k3 l r m (by omega) (by omega) (by omega) (by omega), hz]
  rfl
end Go.Proofs.YtfidfbgplfjakaaDoor

/- A row of bytes more in a row of rows of bytes. -/
namespace Go.Proofs.YtfidfbgplfjakaaDoor
open Go.RowKit

theorem info_bytesA : (Tryd.prog.info? 31).map (fun i => (i.zero, i.size, i.bytes)) = some (some (.slice none 0 0), 1, 24) := by kernel_rfl
theorem OwnBss.blk {w : World} {base : Nat} {v : Value} {l : List (List UInt8)} (h : OwnBss w base v l) : v.ownBlock ≠ some w.heap.size := by
  obtain ⟨vs, h1, _⟩ := h
  intro e
  have := own_lt h1 _ e
  omega
/-- One row of bytes more in a row of rows of bytes. -/
theorem append_bss {w : World} {base B : Nat} {v : Value} {l : List (List UInt8)} (h : OwnBss w base v l) {u : Value} {c : List UInt8} (hu : w.ownsRow B 5 1 u c.length ((toI c).map (Value.int .u8))) (hB : base ≤ B) (hl : l.length ≤ 65536) (hbase : base ≤ w.heap.size) :
    ∃ v' w', (Builtin.append_ #[24, 24] 24 #[v, .slice (some ⟨w.heap.size, 0, none⟩) 1 1]).run Tryd.prog (w.alloc (.cells #[u] 31)) = .ok v' w' ∧ OwnBss w' base v' (l ++ [c]) ∧ w.grownBy w' v.ownBlock := by
  obtain ⟨i0, hi, hz0, hz1, hz2⟩ := info_parts info_bytesA
  obtain ⟨vs, h1, h2, h3⟩ := h
  obtain ⟨au, ku, rfl, _⟩ := own_slice hu
  obtain ⟨v', w', hr, ho, hg, _⟩ := run_append_new (P := Tryd.prog) base 24 31 i0 _ 1 24 Tryd.underlying24 hi hz0 hz1 hz2 rfl (by decide) h1 #[.slice au c.length ku] rfl (fun u hu => by simp at hu; subst hu; rfl) (by unfold maxLen; omega) (by omega) hbase
  exact ⟨v', w', hr, OwnBss.snoc h1 rfl h2 h3 (own_base hu hB) hg ho, hg⟩
theorem OwnBss.ge {w : World} {base : Nat} {v : Value} {l : List (List UInt8)} (h : OwnBss w base v l) : ∀ k, v.ownBlock = some k → base ≤ k := by
  obtain ⟨vs, h1, _⟩ := h; exact own_ge h1
end Go.Proofs.YtfidfbgplfjakaaDoor

/- A region that is written page by page; a row of rows of bytes. -/
namespace Go.Proofs.YtfidfbgplfjakaaDoor
open Go.RowKit

/-- A region of so many pages that never stops: what stands on each. -/
def RegAt (d : List Rg) (r n : Nat) (f : Nat → List UInt8) : Prop := ∃ x, d[r]? = some x ∧ x.size = n ∧ x.left = -1 ∧ x.down = false ∧ ∀ p, (seen x p).1 = f p
def upd (f : Nat → List UInt8) (p : Nat) (b : List UInt8) : Nat → List UInt8 := fun q => if q = p then b else f q
def zeros : Nat → List UInt8 := fun _ => List.replicate 128 0
theorem RegAt.new {l : List Int} {r : Nat} {n : Int} (h : l[r]? = some n) : RegAt (newD l) r n.toNat zeros :=
  ⟨Rg.new n.toNat, by simp [newD, h], rfl, rfl, rfl, fun p => rfl⟩
theorem RegAt.paged {d : List Rg} {r n : Nat} {f : Nat → List UInt8} (h : RegAt d r n f) (p : Int) : pagedE d r p = if 0 ≤ p ∧ p < n then 0 else 2 := by
  obtain ⟨x, hx, hs, hl, hd, hf⟩ := h
  have hr : r < d.length := (List.getElem?_eq_some_iff.1 hx).1
  have hu : upE d (r : Int) = 0 := by
    unfold upE
    rw [if_pos (by omega), Int.toNat_natCast, hx]
    simp [hd]
  unfold pagedE
  rw [if_pos hu, atR_of hx, hs]
theorem RegAt.read {d : List Rg} {r n : Nat} {f : Nat → List UInt8} (h : RegAt d r n f) {p : Int} (hp : 0 ≤ p ∧ p < n) : readB d r p = f p.toNat := by
  have he := h.paged p
  rw [if_pos hp] at he
  obtain ⟨x, hx, hs, hl, hd, hf⟩ := h
  unfold readB
  rw [if_pos he, atR_of hx, hf]
theorem RegAt.write {d : List Rg} {r n : Nat} {f : Nat → List UInt8} (h : RegAt d r n f) {p : Int} (hp : 0 ≤ p ∧ p < n) {b : List UInt8} (hb : b.length = 128) :
    writeE d r p b = 0 ∧ RegAt (writeD d r p b) r n (upd f p.toNat b) ∧ ∀ r' n' f', r' ≠ r → RegAt d r' n' f' → RegAt (writeD d r p b) r' n' f' := by
  have he := h.paged p
  rw [if_pos hp] at he
  obtain ⟨x, hx, hs, hl, hd, hf⟩ := h
  have hr : r < d.length := (List.getElem?_eq_some_iff.1 hx).1
  have hc : cntE x = 0 := by rw [cntE, if_neg (by omega)]
  have hw : wroteR x p.toNat (toP b) = { x with loose := x.loose ++ [(p.toNat, toP b)] } := by
    rw [wroteR, if_pos hc, cntR, if_neg (by omega), if_neg (by omega)]
  have hD : writeD d r p b = d.set r (wroteR x p.toNat (toP b)) := by
    rw [writeD, if_pos ⟨he, hb⟩, atR_of hx, Int.toNat_natCast]
  refine ⟨by rw [writeE, if_pos he, if_pos hb, atR_of hx, hc], ?_, ?_⟩
  · rw [hD, hw]
    refine ⟨_, List.getElem?_set_self hr, hs, hl, hd, fun q => ?_⟩
    show (lastW q (x.pages q) (x.loose ++ [(p.toNat, toP b)])).1 = _
    rw [lastW_snoc]
    unfold upd
    by_cases hq : q = p.toNat
    · subst hq; rw [if_pos rfl, if_pos rfl, toP_val hb]
    · rw [if_neg (fun e => hq e.symm), if_neg hq]; exact hf q
  · rintro r' n' f' hne ⟨y, hy, h2⟩
    exact ⟨y, by rw [hD, List.getElem?_set_ne (fun e => hne e.symm)]; exact hy, h2⟩
/-- One of the rows of bytes. -/
theorem OwnBss.get {w : World} {base : Nat} {v : Value} {l : List (List UInt8)} (h : OwnBss w base v l) {i : Nat} {c : List UInt8} (hc : l[i]? = some c) :
    ∃ g k a cap, v = .slice (some ⟨g, 0, none⟩) l.length k ∧ l.length ≤ k ∧ k ≤ 9223372036854775807 ∧ g < w.heap.size ∧ base ≤ g ∧ w.cell? ⟨g, i, none⟩ = some (.slice a c.length cap) ∧ Bs w a c.length cap c ∧ ∀ g' off, a = some ⟨g', off, none⟩ → base ≤ g' ∧ g' < w.heap.size := by
  obtain ⟨vs, h1, h2, h3⟩ := h
  obtain ⟨u, e1, e2⟩ := h3 i c hc
  obtain ⟨a, cap, rfl, hbs⟩ := Bs.of_own e2
  have hi := (List.getElem?_eq_some_iff.1 hc).1
  have hge := own_ge e2
  have hlt := own_lt e2
  obtain ⟨a0, k, rfl, hlen, hk, hk2, hcell⟩ := own_cells1 h1
  obtain ⟨g, rfl, hg, hcl⟩ := hcell i _ e1
  have hg0 := own_ge h1 g rfl
  unfold maxLen at hk2
  refine ⟨g, k, a, cap, rfl, hk, by omega, hg, hg0, hcl, hbs, fun g' off ea => ?_⟩
  subst ea
  rcases e2.2 with ⟨e, _⟩ | ⟨g2, cap2, cur, e, hb2, hh, _⟩
  · cases e
  · cases e
    exact ⟨hb2, (Array.getElem?_eq_some_iff.1 hh).1⟩
end Go.Proofs.YtfidfbgplfjakaaDoor

/- Plain laws of numbers that are put and taken; no program in sight. -/
namespace Go.Proofs.YtfidfbgplfjakaaDoor

theorem beVal_beBytes (x n : Nat) : beVal (beBytes x n) = x % 256 ^ n := by
  induction n generalizing x with
  | zero => simp [beBytes, beVal_nil, Nat.mod_one]
  | succ n ih =>
    have e : 256 ^ (n + 1) = 256 * 256 ^ n := by rw [Nat.pow_succ, Nat.mul_comm]
    have e2 : x % 2 ^ 8 = x % 256 := rfl
    rw [beBytes, beVal_snoc, ih, UInt8.toNat_ofNat', e, Nat.mod_mul, e2]
    omega

/-- A number's bytes, behind which others stand, are taken as the number. -/
theorem tNum_be (x n : Nat) (h1 : 1 ≤ n) (h8 : n ≤ 8) (hx : x < 256 ^ n) (r : List UInt8) : tNum ⟨beBytes x n ++ r, 0⟩ (n : Int) = (x, ⟨r, 0⟩) := by
  have hl := beBytes_length x n
  rw [tNum, if_neg (by simp; omega)]
  have : takeF ⟨beBytes x n ++ r, 0⟩ n = (beBytes x n, ⟨r, 0⟩) := by
    simp only [takeF]
    rw [if_neg (by simp), if_neg (by simp [hl])]
    simp [hl]
  rw [Int.toNat_natCast, this, beVal_beBytes, Nat.mod_eq_of_lt hx]
theorem tText_text (s : List UInt8) (h : s.length ≤ 255) : tText ⟨UInt8.ofNat s.length :: s, 0⟩ = (s, ⟨[], 0⟩) := by
  have e := tNum_be s.length 1 (by omega) (by omega) (by omega) s
  have e2 : beBytes s.length 1 ++ s = UInt8.ofNat s.length :: s := by simp [beBytes]
  rw [e2] at e
  have e3 : tNum ⟨UInt8.ofNat s.length :: s, 0⟩ 1 = (s.length, ⟨s, 0⟩) := e
  rw [tText, e3]
  simp [takeF]
theorem tText_short (s : List UInt8) (h : s.length ≤ 255) : (tText ⟨(UInt8.ofNat s.length :: s).dropLast, 0⟩).2.e = 10 := by
  cases hs : s with
  | nil => decide
  | cons c r =>
    have e0 : (UInt8.ofNat (c :: r).length :: c :: r).dropLast = UInt8.ofNat (c :: r).length :: (c :: r).dropLast := rfl
    rw [e0]
    have hr : (c :: r).length ≤ 255 := by rw [← hs]; exact h
    have e := tNum_be (c :: r).length 1 (by omega) (by omega) (by omega) (c :: r).dropLast
    have e2 : beBytes (c :: r).length 1 ++ (c :: r).dropLast = UInt8.ofNat (c :: r).length :: (c :: r).dropLast := by simp [beBytes]
    rw [e2] at e
    have e3 : tNum ⟨UInt8.ofNat (c :: r).length :: (c :: r).dropLast, 0⟩ 1 = ((c :: r).length, ⟨(c :: r).dropLast, 0⟩) := e
    rw [tText, e3]
    have hl : (c :: r).dropLast.length < (c :: r).length := by simp
    simp only [takeF]
    rw [if_neg (by simp), if_pos hl]

section
variable (X N : Nat → Nat)
/-- The numbers from one place on, so many, one behind the other. -/
def encN : Nat → Nat → List UInt8
  | 0, _ => []
  | k + 1, i => beBytes (X i) (N i) ++ encN k (i + 1)
theorem encN_snoc (k i : Nat) : encN X N (k + 1) i = encN X N k i ++ beBytes (X (i + k)) (N (i + k)) := by
  induction k generalizing i with
  | zero => simp [encN]
  | succ k ih =>
    have e : i + 1 + k = i + (k + 1) := by omega
    rw [encN, ih (i + 1), encN, List.append_assoc, e]
theorem encN_length (h : ∀ i, N i ≤ 8) (k i : Nat) : (encN X N k i).length ≤ 8 * k := by
  induction k generalizing i with
  | zero => simp [encN]
  | succ k ih =>
    rw [encN, List.length_append, beBytes_length]
    have := ih (i + 1)
    have := h i
    omega
end
end Go.Proofs.YtfidfbgplfjakaaDoor

/- Plain laws of pages: what is packed is unpacked. -/
namespace Go.Proofs.YtfidfbgplfjakaaDoor

theorem slotsOf_get (l : List (List UInt8)) (i e : Nat) (h : i < l.length) : (slotsOf e l)[i]? = some (UInt8.ofNat (e - lens (l.take (i + 1)))) := by
  induction l generalizing i e with
  | nil => simp at h
  | cons c r ih =>
    match i with
    | 0 => simp [slotsOf, lens]
    | i + 1 =>
      have := ih i (e - c.length) (by simpa using h)
      simp only [slotsOf, List.getElem?_cons_succ, this, List.take_succ_cons]
      congr 2
      simp [lens, Nat.sub_sub]

theorem pageOf_five' (kind : UInt8) (c : List (List UInt8)) : (pageOf kind c)[5]? = some (UInt8.ofNat c.length) := by
  rw [pageOf, List.getElem?_append_right (by rw [beBytes_length]; omega), beBytes_length]; rfl

theorem page_kind (kind : UInt8) (l : List (List UInt8)) (_hfit : l.length + lens l ≤ 122) : kindS (pageOf kind l) = kind := by
  rw [kindS, pageOf, List.getElem?_append_right (by rw [beBytes_length]; omega), beBytes_length]; rfl
theorem page_num (kind : UInt8) (l : List (List UInt8)) (hfit : l.length + lens l ≤ 122) : numS (pageOf kind l) = l.length := by
  rw [numS, pageOf_five' kind l]
  simp; omega
theorem page_slot (kind : UInt8) (l : List (List UInt8)) (_hfit : l.length + lens l ≤ 122) (i : Nat) (h : i < l.length) : slotS (pageOf kind l) i = 128 - lens (l.take (i + 1)) := by
  have hl := lens_take_le l (i + 1)
  have e : (pageOf kind l)[6 + i]? = some (UInt8.ofNat (128 - lens (l.take (i + 1)))) := by
    rw [pageOf, List.getElem?_append_right (by rw [beBytes_length]; omega), beBytes_length, show 6 + i - 4 = i + 2 by omega, bodyOf]
    simp only [List.getElem?_cons_succ]
    rw [List.getElem?_append_left (by rw [slotsOf_length]; exact h), slotsOf_get l i 128 h]
  rw [slotS, e]
  simp; omega
theorem page_end (kind : UInt8) (l : List (List UInt8)) (hfit : l.length + lens l ≤ 122) (i : Nat) (h : i ≤ l.length) : endS (pageOf kind l) i = 128 - lens (l.take i) := by
  match i with
  | 0 => simp [endS, lens]
  | i + 1 => exact page_slot kind l hfit i h
theorem page_ok (kind : UInt8) (l : List (List UInt8)) (hfit : l.length + lens l ≤ 122) : okS (pageOf kind l) l.length = true := by
  rw [okS, List.all_eq_true]
  intro i hi
  rw [List.mem_range] at hi
  rw [decide_eq_true_eq, page_slot kind l hfit i hi, page_end kind l hfit i (by omega), lens_take_succ l i hi]
  omega
theorem page_cell (kind : UInt8) (l : List (List UInt8)) (hfit : l.length + lens l ≤ 122) (i : Nat) (h : i < l.length) : cellS (pageOf kind l) i = l[i] := by
  have h1 := page_slot kind l hfit i h
  have h2 := page_end kind l hfit i (by omega)
  have hle := lens_take_le l (i + 1)
  have hs := lens_take_succ l i h
  have hg : l[i]?.getD [] = l[i] := by rw [List.getElem?_eq_getElem h]; rfl
  rw [hg] at hs
  have hsplit : backOf l = backOf (l.drop (i + 1)) ++ (l[i] ++ backOf (l.take i)) := by
    have e : l = l.take i ++ ([l[i]] ++ l.drop (i + 1)) := by simp
    conv => lhs; rw [e]
    rw [backOf_append, backOf_append, backOf_one, List.append_assoc]
  have hlen : lens l = lens (l.take (i + 1)) + lens (l.drop (i + 1)) := by rw [← lens_append, List.take_append_drop]
  have hp : pageOf kind l = (beBytes (crcOf (bodyOf kind l.length l)) 4 ++ (kind :: UInt8.ofNat l.length :: (slotsOf 128 l ++ (List.replicate (122 - l.length - lens l) 0 ++ backOf (l.drop (i + 1)))))) ++ (l[i] ++ backOf (l.take i)) := by
    rw [pageOf]
    conv => lhs; arg 2; rw [bodyOf, hsplit]
    simp [List.append_assoc]
  rw [cellS, h1, h2, hp]
  have hlen2 : (beBytes (crcOf (bodyOf kind l.length l)) 4 ++ (kind :: UInt8.ofNat l.length :: (slotsOf 128 l ++ (List.replicate (122 - l.length - lens l) 0 ++ backOf (l.drop (i + 1)))))).length = 128 - lens (l.take (i + 1)) := by
    simp only [List.length_append, List.length_cons, beBytes_length, slotsOf_length, List.length_replicate, backOf_length]
    omega
  rw [← hlen2, List.drop_left, hlen2]
  have : 128 - lens (l.take i) - (128 - lens (l.take (i + 1))) = l[i].length := by omega
  rw [this, List.take_left]
theorem page_cut (kind : UInt8) (l : List (List UInt8)) (hfit : l.length + lens l ≤ 122) : cutS (pageOf kind l) l.length = l := by
  apply List.ext_getElem
  · simp [cutS]
  · intro i h1 h2
    simp only [cutS, List.getElem_map, List.getElem_range]
    exact page_cell kind l hfit i h2

/-- What is packed is unpacked. -/
theorem page_back (kind : UInt8) (l : List (List UInt8)) (h : fits kind l = true) : unpE (pageOf kind l) = 0 ∧ unpK (pageOf kind l) = kind ∧ unpL (pageOf kind l) = l := by
  have hfit : l.length + lens l ≤ 122 := by
    simp only [fits, Bool.and_eq_true, decide_eq_true_eq] at h; exact h.2
  have hlen := pageOf_length kind l hfit
  have hn := page_num kind l hfit
  have hk := page_kind kind l hfit
  have hmin : min l.length 122 = l.length := Nat.min_eq_left (by omega)
  have hc := page_cut kind l hfit
  have hB : unpB (pageOf kind l) = true := by
    rw [unpB, hn, hk, hmin, hc, page_ok kind l hfit, h]; simp
  have hsum : beVal ((pageOf kind l).take 4) = crcOf ((pageOf kind l).drop 4) := by
    have e1 : (pageOf kind l).take 4 = beBytes (crcOf (bodyOf kind l.length l)) 4 := by
      rw [pageOf, List.take_append_of_le_length (by rw [beBytes_length]; omega), List.take_of_length_le (by rw [beBytes_length]; omega)]
    have e2 : (pageOf kind l).drop 4 = bodyOf kind l.length l := by
      rw [pageOf]
      have := List.drop_left (l₁ := beBytes (crcOf (bodyOf kind l.length l)) 4) (l₂ := bodyOf kind l.length l)
      rwa [beBytes_length] at this
    have hx := crcOn_lt 0 (bodyOf kind l.length l)
    rw [e1, e2, beVal_beBytes, Nat.mod_eq_of_lt (by exact hx)]
  have hE : unpE (pageOf kind l) = 0 := by
    rw [unpE, if_neg (by omega), if_neg (by simpa using hsum), if_pos hB]
  refine ⟨hE, ?_, ?_⟩
  · rw [unpK, hE, hk]; rfl
  · rw [unpL, hE, hn, hmin, hc]; rfl
end Go.Proofs.YtfidfbgplfjakaaDoor

/- Long values as pages: plain laws. -/
namespace Go.Proofs.YtfidfbgplfjakaaDoor

/-- How many pages a value of so many bytes takes. -/
def needC (n : Int) : Nat := if n ≤ 16 ∨ 400 < n then 0 else ((n + 118) / 119).toNat
def pgC (n : Int) : Bool := decide (2 ≤ n) && decide (n ≤ 999)
def atC (l : List Int) (i : Nat) : Int := l[i]?.getD 0
/-- Places of pages, none twice. -/
def aptC (at_ : List Int) : Bool := (List.range at_.length).all fun i => pgC (atC at_ i) && !(at_.take i).contains (atC at_ i)
def wordC (n : Int) : List UInt8 := beBytes n.toNat 2
theorem wordC_length (n : Int) : (wordC n).length = 2 := beBytes_length _ _
def nextC (at_ : List Int) (i : Nat) : Int := if i + 1 < at_.length then atC at_ (i + 1) else 0
def partC (v : List UInt8) (i : Nat) : List UInt8 := (v.drop (119 * i)).take 119
def cellC (v : List UInt8) (at_ : List Int) (i : Nat) : List UInt8 := wordC (nextC at_ i) ++ partC v i
def pageC (v : List UInt8) (at_ : List Int) (i : Nat) : List UInt8 := pageOf 3 [cellC v at_ i]
def putOkC (v : List UInt8) (at_ : List Int) : Bool := decide (needC v.length ≠ 0) && (decide (at_.length = needC v.length) && aptC at_)
def putLC (v : List UInt8) (at_ : List Int) : List (List UInt8) := if putOkC v at_ then (List.range at_.length).map (pageC v at_) else []
def putEC (v : List UInt8) (at_ : List Int) : Int := if putOkC v at_ then 0 else 1
theorem partC_le (v : List UInt8) (i : Nat) : (partC v i).length ≤ 119 := by simp [partC]; omega
theorem cellC_length (v : List UInt8) (at_ : List Int) (i : Nat) : (cellC v at_ i).length = 2 + (partC v i).length := by simp [cellC, wordC_length]
theorem pageC_fits (v : List UInt8) (at_ : List Int) (i : Nat) : fits 3 [cellC v at_ i] = true := by
  have := partC_le v i
  simp [fits, lens_one, cellC_length]; omega
theorem needC_le (n : Int) : needC n ≤ 4 := by unfold needC; split <;> omega
theorem needC_pos {n : Int} (h : needC n ≠ 0) : 16 < n ∧ n ≤ 400 := by
  unfold needC at h
  split at h
  · exact absurd rfl h
  · omega
theorem needC_fit {n : Nat} (h : needC n ≠ 0) : 119 * (needC (n : Int) - 1) < n ∧ n ≤ 119 * needC (n : Int) := by
  have := needC_pos h
  unfold needC
  rw [if_neg (by omega)]
  omega
/-- A part's bytes: all but the last one are full. -/
theorem partC_length {v : List UInt8} {i : Nat} : (partC v i).length = min 119 (v.length - 119 * i) := by simp [partC]
theorem take_part (v : List UInt8) (i : Nat) : v.take (119 * i) ++ partC v i = v.take (119 * (i + 1)) := by
  rw [partC, ← List.take_add, Nat.mul_succ]

/-- What a page tells: an error; where the next one stands; a part. -/
def oneEC (b : List UInt8) : Int :=
  if unpE b ≠ 0 then unpE b else if unpK b ≠ 3 ∨ (unpL b).length ≠ 1 then 11 else if ((unpL b)[0]?.getD []).length < 2 then 10 else 0
def oneNC (b : List UInt8) : Int := if oneEC b = 0 then (beVal (((unpL b)[0]?.getD []).take 2) : Int) else 0
def onePC (b : List UInt8) : List UInt8 := if oneEC b = 0 then ((unpL b)[0]?.getD []).drop 2 else []
theorem beVal_word {n : Int} (h : 0 ≤ n ∧ n < 65536) : (beVal (wordC n) : Int) = n := by
  obtain ⟨k, rfl⟩ := Int.eq_ofNat_of_zero_le h.1
  have e : wordC (k : Int) = [UInt8.ofNat (k / 256), UInt8.ofNat k] := by simp [wordC, beBytes]
  rw [e]
  simp [beVal, UInt8.toNat_ofNat']
  omega
theorem oneC_page (v : List UInt8) (at_ : List Int) (i : Nat) (h2 : 0 ≤ nextC at_ i ∧ nextC at_ i < 65536) :
    oneEC (pageC v at_ i) = 0 ∧ oneNC (pageC v at_ i) = nextC at_ i ∧ onePC (pageC v at_ i) = partC v i := by
  obtain ⟨e1, e2, e3⟩ := page_back 3 [cellC v at_ i] (pageC_fits v at_ i)
  have hl := cellC_length v at_ i
  have hE : oneEC (pageC v at_ i) = 0 := by
    unfold oneEC pageC
    rw [e1, e2, e3]
    simp [hl]
  have hw := wordC_length (nextC at_ i)
  refine ⟨hE, ?_, ?_⟩
  · rw [oneNC, if_pos hE]
    unfold pageC
    rw [e3]
    show (beVal ((cellC v at_ i).take 2) : Int) = _
    rw [cellC, List.take_append_of_le_length (by omega), List.take_of_length_le (by omega), beVal_word h2]
  · rw [onePC, if_pos hE]
    unfold pageC
    rw [e3]
    show (cellC v at_ i).drop 2 = _
    rw [cellC, List.drop_append_of_le_length (by omega), List.drop_of_length_le (by omega), List.nil_append]

/-- The value from one page on: what each page tells is given; the places so far, the last one is to be read. -/
def getFC (rd : Int → Int × Int × List UInt8) : Nat → List UInt8 → List Int → Int → List UInt8 × List Int × Int
  | 0, _, _, _ => ([], [], 11)
  | n + 1, s, at_, left =>
    let x := rd (at_.getLastD 0)
    if x.1 = 10 ∨ (x.1 = 0 ∧ (x.2.2.length : Int) ≠ min left 119) then ([], [], 11)
    else if x.1 ≠ 0 then ([], [], x.1)
    else if left - x.2.2.length = 0 ∧ x.2.1 = 0 then (s ++ x.2.2, at_, 0)
    else if left - x.2.2.length = 0 ∨ pgC x.2.1 = false ∨ x.2.1 ∈ at_ then ([], [], 11)
    else getFC rd n (s ++ x.2.2) (at_ ++ [x.2.1]) (left - x.2.2.length)
def getC (rd : Int → Int × Int × List UInt8) (first size : Int) : List UInt8 × List Int × Int :=
  if needC size = 0 then ([], [], 1) else getFC rd 4 [] [first] size
theorem putC_parts {v : List UInt8} {at_ : List Int} (h : putOkC v at_ = true) : needC v.length ≠ 0 ∧ at_.length = needC v.length ∧ aptC at_ = true := by
  simpa [putOkC, Bool.and_eq_true] using h
theorem aptC_at {at_ : List Int} (h : aptC at_ = true) {i : Nat} (hi : i < at_.length) : pgC (atC at_ i) = true ∧ atC at_ i ∉ at_.take i := by
  rw [aptC, List.all_eq_true] at h
  have := h i (by simpa using hi)
  simp at this
  exact this
theorem pgC_lt {n : Int} (h : pgC n = true) : 2 ≤ n ∧ n ≤ 999 := by simpa [pgC] using h
theorem nextC_lt {at_ : List Int} (h : aptC at_ = true) (i : Nat) : 0 ≤ nextC at_ i ∧ nextC at_ i < 65536 := by
  unfold nextC
  split
  · rename_i hi; have := pgC_lt (aptC_at h hi).1; omega
  · omega
theorem takeC_last (at_ : List Int) {i : Nat} (hi : i < at_.length) : (at_.take (i + 1)).getLastD 0 = atC at_ i := by
  rw [List.take_succ_eq_append_getElem hi, List.getLastD_concat]; simp [atC, hi]
/-- What is put, and told by each page, is got. -/
theorem getC_back {v : List UInt8} {at_ : List Int} (h : putOkC v at_ = true) (rd : Int → Int × Int × List UInt8) (hrd : ∀ j, j < at_.length → rd (atC at_ j) = (0, nextC at_ j, partC v j)) :
    ∀ m i, m = at_.length - i → i < at_.length → ∀ n, m ≤ n → getFC rd n (v.take (119 * i)) (at_.take (i + 1)) ((v.length : Int) - 119 * i) = (v, at_, 0) := by
  obtain ⟨h1, h2, h3⟩ := putC_parts h
  have hf := needC_fit h1
  intro m
  induction m with
  | zero => intro i hm hi; omega
  | succ m ih =>
    intro i hm hi n hn
    obtain ⟨n, rfl⟩ : ∃ k, n = k + 1 := ⟨n - 1, by omega⟩
    have hp := pgC_lt (aptC_at h3 hi).1
    have hpl := partC_length (v := v) (i := i)
    have hin : 119 * i < v.length := by omega
    rw [getFC, takeC_last at_ hi, hrd i hi]
    simp only
    rw [if_neg (by rintro (h4 | ⟨_, h4⟩); exact absurd h4 (by decide); apply h4; rw [hpl]; omega), if_neg (by simp)]
    by_cases hl : i + 1 < at_.length
    · have en : nextC at_ i = atC at_ (i + 1) := by rw [nextC, if_pos hl]
      obtain ⟨g1, g2⟩ := aptC_at h3 hl
      have g3 := pgC_lt g1
      have hfull : (partC v i).length = 119 := by rw [hpl]; omega
      rw [if_neg (by rw [en]; omega), if_neg (by
        rw [en, g1]
        rintro (h4 | h4 | h4)
        · rw [hfull] at h4; omega
        · cases h4
        · exact g2 h4)]
      have := ih (i + 1) (by omega) hl n (by omega)
      rw [take_part, en, hfull]
      rw [show at_.take (i + 1) ++ [atC at_ (i + 1)] = at_.take (i + 1 + 1) by rw [List.take_succ_eq_append_getElem hl]; simp [atC, hl]]
      rw [show (v.length : Int) - 119 * i - (119 : Nat) = (v.length : Int) - 119 * ((i + 1 : Nat) : Int) by omega]
      exact this
    · have en : nextC at_ i = 0 := by rw [nextC, if_neg hl]
      rw [if_pos ⟨by rw [hpl]; omega, en⟩, take_part, List.take_of_length_le (by omega), List.take_of_length_le (by omega)]
/-- A page that isn't told stops it. -/
theorem getC_lost {v : List UInt8} {at_ : List Int} (h : putOkC v at_ = true) (rd : Int → Int × Int × List UInt8) (w : Nat) (e : Int) (he : e ≠ 0) (he2 : e ≠ 10) (hw : w < at_.length) (hE : (rd (atC at_ w)).1 = e) (hrd : ∀ j, j < w → rd (atC at_ j) = (0, nextC at_ j, partC v j)) :
    ∀ m i, m = at_.length - i → i ≤ w → ∀ n, m ≤ n → getFC rd n (v.take (119 * i)) (at_.take (i + 1)) ((v.length : Int) - 119 * i) = ([], [], e) := by
  obtain ⟨h1, h2, h3⟩ := putC_parts h
  have hf := needC_fit h1
  intro m
  induction m with
  | zero => intro i hm hi; omega
  | succ m ih =>
    intro i hm hi n hn
    obtain ⟨n, rfl⟩ : ∃ k, n = k + 1 := ⟨n - 1, by omega⟩
    rw [getFC, takeC_last at_ (show i < at_.length by omega)]
    by_cases hiw : i = w
    · subst hiw
      simp only [hE]
      rw [if_neg (by rintro (h4 | ⟨h4, _⟩); exact he2 h4; exact he h4), if_pos he]
    · rw [hrd i (by omega)]
      simp only
      have hpl := partC_length (v := v) (i := i)
      have hl : i + 1 < at_.length := by omega
      have en : nextC at_ i = atC at_ (i + 1) := by rw [nextC, if_pos hl]
      obtain ⟨g1, g2⟩ := aptC_at h3 hl
      have g3 := pgC_lt g1
      have hfull : (partC v i).length = 119 := by rw [hpl]; omega
      rw [if_neg (by rintro (h4 | ⟨_, h4⟩); exact absurd h4 (by decide); apply h4; rw [hpl]; omega), if_neg (by simp), if_neg (by rw [en]; omega), if_neg (by
        rw [en, g1]
        rintro (h4 | h4 | h4)
        · rw [hfull] at h4; omega
        · cases h4
        · exact g2 h4)]
      have := ih (i + 1) (by omega) (by omega) n (by omega)
      rw [take_part, en, hfull]
      rw [show at_.take (i + 1) ++ [atC at_ (i + 1)] = at_.take (i + 1 + 1) by rw [List.take_succ_eq_append_getElem hl]; simp [atC, hl]]
      rw [show (v.length : Int) - 119 * i - (119 : Nat) = (v.length : Int) - 119 * ((i + 1 : Nat) : Int) by omega]
      exact this
end Go.Proofs.YtfidfbgplfjakaaDoor

/- The walks of the chapter on long values: how many pages; the reference's small functions. -/
namespace Go.Proofs.YtfidfbgplfjakaaDoor
open Go.RowKit

theorem Row.cellC {w : World} {a : Option Addr} {len cap : Nat} {l : List Int} (h : Row .i64 w a len cap l) {k : Nat} (hk : k < len) :
    ∃ b off, a = some ⟨b, off, none⟩ ∧ b < w.heap.size ∧ ∀ i, i < len → w.cell? ⟨b, off + i, none⟩ = some (.int .i64 (atC l i)) := by
  rcases h.2.2.2.2 with h0 | h0
  · omega
  · exact h0
theorem Row.lensC {k : IntKind} {w : World} {a : Option Addr} {len cap : Nat} {l : List Int} (h : Row k w a len cap l) : l.length = len ∧ len ≤ cap ∧ cap ≤ 9223372036854775807 := ⟨h.1, h.2.1, by have := h.2.2.1; unfold maxLen at this; omega⟩

set_option maxRecDepth 100000 in
set_option maxHeartbeats 1000000 in
theorem cneed_any (n : Int) (w : World) :
    Calls Tryd.prog 11 #[.int .i64 n] w fun e w' => e = .returned (.int .i64 (needC n : Int)) ∧ w = w' := by
  by_cases h1 : n ≤ 16
  · have d1 : decide (n ≤ 16) = true := by simpa using h1
    have HN := Lib.hid (show needC n = 0 by rw [needC, if_pos (.inl h1)])
    go_enter Tryd.func11, Tryd.ntmps11
    go_wp2
    go_ret
    exact ⟨ret_int (by rw [HN.out]; rfl), rfl⟩
  · have d1 : decide (n ≤ 16) = false := by simpa using h1
    by_cases h2 : 400 < n
    · have d2 : decide (400 < n) = true := by simpa using h2
      have HN := Lib.hid (show needC n = 0 by rw [needC, if_pos (.inr h2)])
      go_enter Tryd.func11, Tryd.ntmps11
      go_wp2
      go_ret
      exact ⟨ret_int (by rw [HN.out]; rfl), rfl⟩
    · have d2 : decide (400 < n) = false := by simpa using h2
      have HN := Lib.hid (show needC n = ((n + 118) / 119).toNat by rw [needC, if_neg (by omega)])
      go_enter Tryd.func11, Tryd.ntmps11
      go_wp2
      go_ret
      exact ⟨ret_int (by rw [HN.out]; omega), rfl⟩
set_option maxRecDepth 100000 in
set_option maxHeartbeats 1000000 in
theorem crneed_any (n : Int) (w : World) :
    Calls Tryd.prog 12 #[.int .i64 n] w fun e w' => e = .returned (.int .i64 (needC n : Int)) ∧ w = w' := by
  have hle := needC_le n
  by_cases h1 : 16 < n ∧ n ≤ 400
  · have hq : ∀ k : Nat, ((k : Int) * 119 < n ↔ k < needC n) := by
      intro k
      unfold needC
      split <;> omega
    have d1 : decide (16 < n) = true := by simpa using h1.1
    have d2 : decide (n ≤ 400) = true := by simpa using h1.2
    have HQ := Lib.hid hq
    generalize hm : needC n = m at *
    have HM := Lib.hid hm
    clear hq hm
    go_enter Tryd.func12, Tryd.ntmps12
    go_wp2
    go_loop [3] (fun s => ∃ k : Nat, s = .int .i64 k ∧ k ≤ m) (fun s => m - (intOf s).toNat)
    case atStart => exact ⟨0, rfl, Nat.zero_le _⟩
    case round =>
      obtain ⟨k, rfl, hk⟩ := hrel
      have hq := HQ.out k
      by_cases hlt : k < m
      · have d3 : decide ((k : Int) * 119 < n) = true := by simpa using hq.2 hlt
        clear hq
        go_wp2_with fail
        go_round
        case rel => exact ⟨k + 1, by go_num, hlt⟩
        case measure => simp [intOf]; omega
      · have d3 : decide ((k : Int) * 119 < n) = false := by simpa using fun h => hlt (hq.1 h)
        obtain rfl : k = m := by omega
        clear hq
        go_wp2_with fail
        go_ret
        exact ⟨rfl, rfl⟩
  · have HN := Lib.hid (show needC n = 0 by rw [needC, if_pos (by omega)])
    have dd : decide (16 < n) = false ∨ (decide (16 < n) = true ∧ decide (n ≤ 400) = false) := by
      by_cases h : 16 < n
      · right; exact ⟨by simpa using h, by simp; omega⟩
      · left; simpa using h
    go_enter Tryd.func12, Tryd.ntmps12
    go_wp2
    go_loop [3] (fun s => s = .int .i64 0) (fun _ => 1)
    case atStart => rfl
    case round =>
      subst hrel
      rcases dd with d1 | ⟨d1, d2⟩
      · go_wp2_with fail
        go_ret
        exact ⟨ret_int (by rw [HN.out]; rfl), rfl⟩
      · go_wp2_with fail
        go_ret
        exact ⟨ret_int (by rw [HN.out]; rfl), rfl⟩
theorem cpart_any (n : Nat) (i : Nat) (hn : n ≤ 1000) (hi : i ≤ 100) (w : World) :
    Calls Tryd.prog 34 #[.int .i64 (n : Int), .int .i64 (i : Int)] w fun e w' => e = .returned (.int .i64 (min ((n : Int) - 119 * i) 119)) ∧ w = w' := by
  by_cases h1 : (119 : Int) < (n : Int) - 119 * i
  · have d1 : decide ((119 : Int) < (n : Int) - 119 * (i : Int)) = true := by simpa using h1
    have HE := Lib.hid (show min ((n : Int) - 119 * i) 119 = 119 by omega)
    go_enter Tryd.func34, Tryd.ntmps34
    go_wp2
    go_ret
    exact ⟨ret_int HE.out.symm, rfl⟩
  · have d1 : decide ((119 : Int) < (n : Int) - 119 * (i : Int)) = false := by simpa using h1
    have HE := Lib.hid (show min ((n : Int) - 119 * i) 119 = (n : Int) - 119 * i by omega)
    go_enter Tryd.func34, Tryd.ntmps34
    go_wp2
    go_ret
    exact ⟨ret_int HE.out.symm, rfl⟩
set_option maxRecDepth 100000 in
set_option maxHeartbeats 1000000 in
theorem chas_any {w : World} {a : Option Addr} {len cap : Nat} {l : List Int} (h : Row .i64 w a len cap l) (x : Int) :
    Calls Tryd.prog 31 #[.slice a len cap, .int .i64 x] w fun e w' => e = .returned (.bool (decide (x ∈ l))) ∧ w = w' := by
  obtain ⟨hl, hc, hm⟩ := h.lensC
  have HL := Lib.hid hl
  have HR := Lib.hid h
  clear hl h
  go_enter Tryd.func31, Tryd.ntmps31
  go_wp2
  go_loop [5] (fun s => ∃ i : Nat, i ≤ len ∧ s = .int .i64 i ∧ ∀ j, j < i → atC l j ≠ x) (fun s => len - (intOf s).toNat)
  case atStart => exact ⟨0, Nat.zero_le _, rfl, fun j hj => by omega⟩
  case round =>
    obtain ⟨i, hi, rfl, hall⟩ := hrel
    by_cases hlt : i < len
    · obtain ⟨b, off, rfl, hb, hcell⟩ := HR.out.cellC hlt
      have c1 := hcell i hlt
      by_cases hx : atC l i = x
      · have HY : Hid (x ∈ l) := Lib.hid (by
          rw [← hx, atC, List.getElem?_eq_getElem (by rw [HL.out]; exact hlt)]
          exact List.getElem_mem _)
        rw [hx] at c1
        have e1 : (x == x) = true := by simp
        clear hcell hall hx
        go_wp2_with fail
        go_ret
        exact ⟨ret_bool (decide_eq_true HY.out).symm, rfl⟩
      · have HN : Hid (∀ j, j < i + 1 → atC l j ≠ x) := Lib.hid (fun j hj => by
          by_cases hji : j = i
          · subst hji; exact hx
          · exact hall j (by omega))
        have e1 : (atC l i == x) = false := by simpa using hx
        clear hcell hall hx
        generalize atC l i = y at *
        go_wp2_with fail
        go_round
        case rel => exact ⟨i + 1, hlt, by go_num, HN.out⟩
        case measure => simp [intOf]; omega
    · obtain rfl : i = len := by omega
      have HN : Hid (x ∉ l) := Lib.hid (fun hx => by
        obtain ⟨j, hj, e⟩ := List.getElem_of_mem hx
        exact hall j (by rw [← HL.out]; exact hj) (by rw [atC, List.getElem?_eq_getElem hj, e]; rfl))
      clear hall
      go_wp2_with fail
      go_ret
      exact ⟨ret_bool (decide_eq_false HN.out).symm, rfl⟩
end Go.Proofs.YtfidfbgplfjakaaDoor

/- A map of numbers to numbers, as counts. -/
namespace Go.Proofs.YtfidfbgplfjakaaDoor
open Go.RowKit Go.Maps

/-- How a number reads. -/
def intR (v : Value) : Option (DataW Unit × List MemPlace) := match v with | .int .i64 n => some (.lit (.int .i64 n), []) | _ => none
theorem intR_inv {v : Value} {n : Int} {ps : List MemPlace} (h : intR v = some (.lit (.int .i64 n), ps)) : v = .int .i64 n := by
  unfold intR at h
  split at h
  · simp at h; rw [h.1]
  · cases h
theorem elem_ints : Tryd.prog.underlying 22 = some (.slice (Tryd.prog.elem 22)) := by kernel_rfl
theorem size_ints (w : World) : (sizeOf (Tryd.prog.elem 22)).run Tryd.prog w = .ok 1 w := by kernel_rfl
def I64 (n : Int) : Prop := -9223372036854775808 ≤ n ∧ n ≤ 9223372036854775807
/-- A map of numbers: how often each came. -/
def CtMap (w : World) (mb n : Nat) (f : Int → Nat) : Prop :=
  ∃ D : DataW Unit, w.ownsMap Tryd.prog 3 intR mb n D ∧ IsMap D ∧ ∀ p : Int, D.atKey (.int .i64 p) (.lit (.int .i64 0)) = .lit (.int .i64 (f p : Int))
theorem int_keyW : Keyed Tryd.prog 3 := int_keyed Tryd.underlying3
theorem key_intW (p : Int) (h : I64 p) : keyOf Tryd.prog 3 (.int .i64 p) = some (.int .i64 p) :=
  keyOf_int_mk Tryd.underlying3 (by unfold I64 at h; simp [Lit.wf, IntKind.min, IntKind.max, IntKind.signed, IntKind.bits]; omega)
theorem CtMap.made (w : World) : CtMap (w.alloc (.map #[] 0)) w.heap.size 0 (fun _ => 0) :=
  ⟨.map [], World.ownsMap_made _ _ _ _, isMap_empty, fun _ => rfl⟩
theorem CtMap.lt {w : World} {mb n : Nat} {f : Int → Nat} (h : CtMap w mb n f) : mb < w.heap.size := by
  obtain ⟨D, h1, _⟩ := h; exact h1.lt
theorem zero_int (w : World) : (zeroValue 3).run Tryd.prog w = .ok (.int .i64 0) w := by kernel_rfl
theorem CtMap.lookup {w : World} {mb n : Nat} {f : Int → Nat} (h : CtMap w mb n f) (p : Int) (hp : I64 p) :
    (Instr.lookup 58 (.map (some mb)) (.int .i64 p) false).run Tryd.prog w = .ok (.int .i64 (f p : Int)) w := by
  obtain ⟨D, h1, _, h3⟩ := h
  obtain ⟨v, ps, hr, hv⟩ := h1.lookup int_keyW Tryd.underlying58 (zero_int w) (show intR (.int .i64 0) = some (.lit (.int .i64 0), []) from rfl) (key_intW p hp)
  rw [h3] at hv
  rw [hr, intR_inv hv]
theorem CtMap.update {w : World} {mb n : Nat} {f : Int → Nat} (h : CtMap w mb n f) (p : Int) (hp : I64 p) (c : Nat) (hn : n ≤ 1000000) :
    ∃ w', (Instr.mapUpdate 58 (.map (some mb)) (.int .i64 p) (.int .i64 (c : Int))).run Tryd.prog w = .ok () w' ∧ CtMap w' mb (n + 1) (fun q => if q = p then c else f q) ∧ w.grownBy w' (some mb) := by
  obtain ⟨D, h1, h2, h3⟩ := h
  obtain ⟨w', hr, ho, hg⟩ := h1.update int_keyW Tryd.underlying58 (by unfold maxLen; omega) (key_intW p hp) (show intR (.int .i64 (c : Int)) = some (.lit (.int .i64 (c : Int)), []) from rfl)
  refine ⟨w', hr, ⟨_, ho, h2.put _ _, fun q => ?_⟩, hg⟩
  dsimp only
  by_cases hq : q = p
  · subst hq
    rw [atKey_put_same h2 (int_keyW.key (key_intW q hp)), if_pos rfl]
  · rw [atKey_put_other (by simp; omega), h3, if_neg hq]
/-- One more came. -/
theorem CtMap.inc {w : World} {mb n : Nat} {L : List Int} (h : CtMap w mb n (fun q => L.count q)) (p : Int) (hp : I64 p) (hn : n ≤ 1000000) :
    ∃ w', (Instr.mapUpdate 58 (.map (some mb)) (.int .i64 p) (.int .i64 ((L.count p : Int) + 1))).run Tryd.prog w = .ok () w' ∧ CtMap w' mb (n + 1) (fun q => (L ++ [p]).count q) ∧ w.grownBy w' (some mb) := by
  obtain ⟨w', h1, h2, h3⟩ := h.update p hp (L.count p + 1) hn
  refine ⟨w', by rw [← h1]; rfl, ?_, h3⟩
  have e : (fun q => if q = p then L.count p + 1 else L.count q) = fun q => (L ++ [p]).count q := by
    funext q
    rw [List.count_append]
    by_cases hq : q = p
    · subst hq; simp
    · rw [if_neg hq, List.count_eq_zero_of_not_mem (a := q) (l := [p]) (by simpa using hq)]; rfl
  rw [← e]; exact h2

def I64s (l : List Int) : Prop := ∀ n ∈ l, I64 n
end Go.Proofs.YtfidfbgplfjakaaDoor
