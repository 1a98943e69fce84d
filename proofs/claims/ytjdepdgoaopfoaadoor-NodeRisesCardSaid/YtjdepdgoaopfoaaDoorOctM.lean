/- The walks of the chapter on numbers and texts as bytes: a taker's methods. -/
import Derived.Test.YtjdepdgoaopfoaaDoorOctS
namespace Go.Proofs.YtjdepdgoaopfoaaDoor
open Go.RowKit

/-! a taker that there isn't -/
set_option maxRecDepth 100000 in
set_option maxHeartbeats 1000000 in
theorem tNum_nil (size : Int) (w : World) :
    Calls Tryd.prog 50 #[.pointer none, .int .i64 size] w fun e w' => e = .returned (.int .u64 0) ∧ w = w' := by
  go_enter Tryd.func50, Tryd.ntmps50
  go_wp2_with (go_at_call 76; refine (some_u64_nil _ _).mono ?_; rintro e w' ⟨rfl, rfl⟩)
  go_ret
  exact ⟨rfl, rfl⟩
set_option maxRecDepth 100000 in
set_option maxHeartbeats 1000000 in
theorem tText_nil (w : World) :
    Calls Tryd.prog 63 #[.pointer none] w fun e w' => e = .returned (.string (strOf [])) ∧ w = w' := by
  go_enter Tryd.func63, Tryd.ntmps63
  go_wp2_with fail
  refine (tNum_nil _ _).mono ?_
  rintro e w' ⟨rfl, rfl⟩
  go_wp2_with fail
  refine (some_str_nil _ _).mono ?_
  rintro e w' ⟨rfl, rfl⟩
  go_wp2
  go_ret
  exact ⟨rfl, rfl⟩
set_option maxRecDepth 100000 in
set_option maxHeartbeats 1000000 in
theorem tRest_nil (w : World) :
    Calls Tryd.prog 110 #[.pointer none] w fun e w' => e = .returned (.slice none 0 0) ∧ w = w' := by
  go_enter Tryd.func110, Tryd.ntmps110
  go_wp2
  go_ret
  exact ⟨rfl, rfl⟩
set_option maxRecDepth 100000 in
set_option maxHeartbeats 1000000 in
theorem tErr_nil (w : World) :
    Calls Tryd.prog 78 #[.pointer none] w fun e w' => e = .returned (.int .i64 1) ∧ w = w' := by
  go_enter Tryd.func78, Tryd.ntmps78
  go_wp2
  go_ret
  exact ⟨rfl, rfl⟩
set_option maxRecDepth 100000 in
set_option maxHeartbeats 1000000 in
theorem tDone_nil (w : World) :
    Calls Tryd.prog 51 #[.pointer none] w fun e w' => e = .returned (.int .i64 1) ∧ w = w' := by
  go_enter Tryd.func51, Tryd.ntmps51
  go_wp2_with fail
  refine (tErr_nil _).mono ?_
  rintro e w' ⟨rfl, rfl⟩
  go_wp2
  go_ret
  exact ⟨rfl, rfl⟩

/-! a taker -/
set_option maxRecDepth 100000 in
set_option maxHeartbeats 1000000 in
theorem tErr_any (t : Nat) (s : TSt) (w : World) (h : Tk w t s) :
    Calls Tryd.prog 78 #[.pointer (some ⟨t, 0, none⟩)] w fun e w' => e = .returned (.int .i64 s.e) ∧ w = w' := by
  obtain ⟨a, cap, hblk, hbs⟩ := h
  have hc1 : w.cell? ⟨t, 1, none⟩ = some (.int .i64 s.e) := by simp [World.cell?, hblk]
  go_enter Tryd.func78, Tryd.ntmps78
  go_wp2
  go_ret
  exact ⟨rfl, rfl⟩

set_option maxRecDepth 100000 in
set_option maxHeartbeats 1000000 in
theorem tDone_any (t : Nat) (s : TSt) (w : World) (h : Tk w t s) :
    Calls Tryd.prog 51 #[.pointer (some ⟨t, 0, none⟩)] w fun e w' => e = .returned (.int .i64 (tDone s)) ∧ w = w' := by
  have hE := tErr_any t s w h
  obtain ⟨a, cap, hblk, hbs⟩ := h
  have hc0 : w.cell? ⟨t, 0, none⟩ = some (.slice a s.l.length cap) := by simp [World.cell?, hblk]
  have hm := hbs.cap
  unfold maxLen at hm
  by_cases he : s.e = 0
  · have hd : tDone s = if s.l.length = 0 then 0 else 11 := by simp [tDone, he]
    rw [he] at hE
    have hne' : ((s.l.length : Int) == 0) = decide (s.l.length = 0) := by
      by_cases h0 : s.l.length = 0 <;> simp [h0]
    by_cases h0 : s.l.length = 0
    · rw [if_pos h0] at hd
      have HD := Lib.hid hd
      have hz : ((s.l.length : Int) == 0) = true := by simp [h0]
      clear hd h0 hne' he
      go_enter Tryd.func51, Tryd.ntmps51
      go_wp2_with fail
      refine hE.mono ?_
      rintro e w' ⟨rfl, rfl⟩
      go_wp2
      go_ret
      exact ⟨ret_int HD.out.symm, rfl⟩
    · rw [if_neg h0] at hd
      have HD := Lib.hid hd
      have hz : ((s.l.length : Int) == 0) = false := by simp [h0]
      clear hd h0 hne' he
      go_enter Tryd.func51, Tryd.ntmps51
      go_wp2_with fail
      refine hE.mono ?_
      rintro e w' ⟨rfl, rfl⟩
      go_wp2
      go_ret
      exact ⟨ret_int HD.out.symm, rfl⟩
  · have HD := Lib.hid (show tDone s = s.e by simp [tDone, he])
    have hne : (s.e == 0) = false := by simpa using he
    have hne' : (s.e != 0) = true := by simpa using he
    clear he
    generalize s.e = er at *
    go_enter Tryd.func51, Tryd.ntmps51
    go_wp2_with fail
    refine hE.mono ?_
    rintro e w' ⟨rfl, rfl⟩
    go_wp2
    go_ret
    exact ⟨ret_int HD.out.symm, rfl⟩

set_option maxRecDepth 100000 in
set_option maxHeartbeats 1000000 in
theorem tNum_any (t : Nat) (s : TSt) (size : Int) (w : World) (h : Tk w t s) (hreach : s.l.length ≤ 140737488351232) :
    Calls Tryd.prog 50 #[.pointer (some ⟨t, 0, none⟩), .int .i64 size] w (TkPost w t (fun _ v => v = .int .u64 ((tNum s size).1 : Int)) (tNum s size).2) := by
  have hT := h
  obtain ⟨a, cap, hblk, hbs⟩ := h
  have hc1 : w.cell? ⟨t, 1, none⟩ = some (.int .i64 s.e) := by simp [World.cell?, hblk]
  have hf1 : w.frozen? ⟨t, 1, none⟩ = false := by simp [World.frozen?, hblk]
  by_cases he : s.e = 0
  · by_cases hsz : size < 1 ∨ 8 < size
    · have hr : tNum s size = (0, { s with e := 1 }) := by simp [tNum, he, hsz]
      rw [hr]
      have hnew : Tk (w.setCell ⟨t, 1, none⟩ (.int .i64 1)) t { s with e := 1 } :=
        ⟨a, cap, heap_setCell_at 1 (.int .i64 1) hblk, hbs.grown (grown_setCell _ _ _) (bs_ne hblk hbs)⟩
      have hgr := grown_setCell w ⟨t, 1, none⟩ (.int .i64 1)
      rw [he] at hc1
      clear hr hblk hbs hT he
      rcases hsz with hsz | hsz
      · go_enter Tryd.func50, Tryd.ntmps50
        go_wp2
        go_ret
        exact ⟨_, rfl, rfl, hgr, hnew⟩
      · have hsz' : ¬ size < 1 := by omega
        go_enter Tryd.func50, Tryd.ntmps50
        go_wp2
        go_ret
        exact ⟨_, rfl, rfl, hgr, hnew⟩
    · obtain ⟨n, rfl⟩ := Int.eq_ofNat_of_zero_le (show 0 ≤ size by omega)
      have hr : tNum s (n : Int) = (beVal (takeF s n).1, (takeF s n).2) := by simp only [tNum]; rw [if_neg (fun h => hsz h.2)]; rfl
      rw [hr]
      have hs1 : ¬ (n : Int) < 1 := by omega
      have hs2 : ¬ (8 : Int) < (n : Int) := by omega
      have hcall := some_u64_any t s n w hT (by omega) hreach
      rw [he] at hc1
      clear hr hblk hbs hT he hsz
      go_enter Tryd.func50, Tryd.ntmps50
      go_wp2_with fail
      refine hcall.mono ?_
      rintro e w' ⟨v, rfl, rfl, hgr, hnew⟩
      go_wp2
      go_ret
      exact ⟨_, rfl, rfl, hgr, hnew⟩
  · have hr : tNum s size = (0, s) := by simp [tNum, takeF, he, beVal_nil]
    rw [hr]
    have hcall := some_u64_err t s size w hT he
    have hne : (s.e == 0) = false := by simpa using he
    clear hr hblk hbs he
    generalize s.e = er at *
    go_enter Tryd.func50, Tryd.ntmps50
    go_wp2_with fail
    refine hcall.mono ?_
    rintro e w' ⟨rfl, rfl⟩
    go_wp2
    go_ret
    exact ⟨_, rfl, rfl, grown_below (Below.refl _ _) _, hT⟩

theorem takeF_len (s : TSt) (n : Nat) : (takeF s n).2.l.length ≤ s.l.length := by
  unfold takeF; split
  · exact Nat.le_refl _
  · split
    · exact Nat.le_refl _
    · simp
theorem tNum_len (s : TSt) (size : Int) : (tNum s size).2.l.length ≤ s.l.length := by
  unfold tNum; split
  · exact Nat.le_refl _
  · exact takeF_len _ _
theorem takeF_le (s : TSt) (n : Nat) : (takeF s n).1.length ≤ n := by
  unfold takeF; split
  · simp
  · split
    · simp
    · simp; omega
theorem tNum_lt (s : TSt) (k : Nat) : (tNum s (k : Int)).1 < 256 ^ k := by
  unfold tNum; split
  · exact Nat.pow_pos (by decide)
  · exact Nat.lt_of_lt_of_le (beVal_lt _) (Nat.pow_le_pow_right (by decide) (takeF_le _ _))

set_option maxRecDepth 100000 in
set_option maxHeartbeats 1000000 in
theorem tText_any (t : Nat) (s : TSt) (w : World) (h : Tk w t s) (hreach : s.l.length ≤ 140737488351232) :
    Calls Tryd.prog 63 #[.pointer (some ⟨t, 0, none⟩)] w (TkPost w t (fun _ v => v = .string (strOf (tText s).1)) (tText s).2) := by
  have hlt := tNum_lt s 1
  have hlen := tNum_len s 1
  have hcall := tNum_any t s 1 w h hreach
  obtain ⟨n, s1, hs⟩ : ∃ n s1, tNum s 1 = (n, s1) := ⟨_, _, rfl⟩
  have hr : tText s = takeF s1 n := by simp [tText, hs]
  have hs' : tNum s ((1 : Nat) : Int) = (n, s1) := hs
  rw [hs] at hcall hlen
  rw [hs'] at hlt
  rw [hr]
  dsimp only at hlt hlen hcall
  clear hr hs hs'
  go_enter Tryd.func63, Tryd.ntmps63
  go_wp2_with fail
  refine hcall.mono ?_
  rintro e w1 ⟨v, rfl, rfl, hgr, hnew⟩
  go_wp2_with fail
  refine (some_str_any t s1 n w1 hnew (by omega)).mono ?_
  rintro e w2 ⟨v, rfl, rfl, hgr2, hnew2⟩
  go_wp2
  go_ret
  exact ⟨_, rfl, rfl, grown_trans hgr hgr2, hnew2⟩

set_option maxRecDepth 100000 in
set_option maxHeartbeats 1000000 in
theorem tRest_any (t : Nat) (s : TSt) (w : World) (h : Tk w t s) (hreach : s.l.length ≤ 140737488351232) :
    Calls Tryd.prog 110 #[.pointer (some ⟨t, 0, none⟩)] w (TkPost w t (fun w' v => w'.ownsRow w.heap.size 5 1 v (tRest s).1.length ((toI (tRest s).1).map (Value.int .u8))) (tRest s).2) := by
  have hcall := some_bytes_any t s s.l.length w h hreach
  obtain ⟨a, cap, hblk, hbs⟩ := h
  have hc0 : w.cell? ⟨t, 0, none⟩ = some (.slice a s.l.length cap) := by simp [World.cell?, hblk]
  clear hblk hbs
  go_enter Tryd.func110, Tryd.ntmps110
  go_wp2_with fail
  refine hcall.mono ?_
  rintro e w2 ⟨v, rfl, hown, hgr2, hnew2⟩
  go_wp2
  go_ret
  exact ⟨_, rfl, hown, hgr2, hnew2⟩
end Go.Proofs.YtjdepdgoaopfoaaDoor
