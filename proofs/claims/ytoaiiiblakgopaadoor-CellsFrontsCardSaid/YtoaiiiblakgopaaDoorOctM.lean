/- The walks of the chapter on numbers and texts as bytes: a taker's methods. -/
import Derived.Test.YtoaiiiblakgopaaDoorOctS
namespace Go.Proofs.YtoaiiiblakgopaaDoor
open Go.RowKit

/-! a taker that there isn't -/
set_option maxHeartbeats 1000000 in
theorem tNum_nil (size : Int) (w : World) :
    Calls Tryd.prog 25 #[.pointer none, .int .i64 size] w fun e w' => e = .returned (.int .u64 0) ∧ w = w' := by
  go_enter Tryd.func25, Tryd.ntmps25
  go_wp2_with (go_at_call 30; refine (some_u64_nil _ _).mono ?_; rintro e w' ⟨rfl, rfl⟩)
  go_ret
  exact ⟨rfl, rfl⟩
/-! a taker -/
set_option maxHeartbeats 1000000 in
theorem tNum_any (t : Nat) (s : TSt) (size : Int) (w : World) (h : Tk w t s) (hreach : s.l.length ≤ 140737488351232) :
    Calls Tryd.prog 25 #[.pointer (some ⟨t, 0, none⟩), .int .i64 size] w (TkPost w t (fun _ v => v = .int .u64 ((tNum s size).1 : Int)) (tNum s size).2) := by
  have hT := h
  obtain ⟨a, cap, hblk, hbs⟩ := h
  have hc1 : w.cell? ⟨t, 1, none⟩ = some (.int .i64 s.e) := by simp [World.cell?, hblk]
  have hf1 : w.frozen? ⟨t, 1, none⟩ = false := by simp [World.frozen?, hblk]
  by_cases he : s.e = 0
  · by_cases hsz : size < 1 ∨ 8 < size
    · have hr : tNum s size = (0, { s with e := 1 }) := by simp [tNum, he, hsz]
      rw [hr]
      have hnew : Tk (w.setCell ⟨t, 1, none⟩ (.int .i64 1)) t { s with e := 1 } :=
        ⟨a, cap, heap_setCell_at 1 (.int .i64 1) hblk, hbs.grown (grown_setCell _ _ _) (bs_ne hblk hbs)⟩
      have hgr := grown_setCell w ⟨t, 1, none⟩ (.int .i64 1)
      rw [he] at hc1
      clear hr hblk hbs hT he
      rcases hsz with hsz | hsz
      · go_enter Tryd.func25, Tryd.ntmps25
        go_wp2
        go_ret
        exact ⟨_, rfl, rfl, hgr, hnew⟩
      · have hsz' : ¬ size < 1 := by omega
        go_enter Tryd.func25, Tryd.ntmps25
        go_wp2
        go_ret
        exact ⟨_, rfl, rfl, hgr, hnew⟩
    · obtain ⟨n, rfl⟩ := Int.eq_ofNat_of_zero_le (show 0 ≤ size by omega)
      have hr : tNum s (n : Int) = (beVal (takeF s n).1, (takeF s n).2) := by simp only [tNum]; rw [if_neg (fun h => hsz h.2)]; rfl
      rw [hr]
      have hs1 : ¬ (n : Int) < 1 := by omega
      have hs2 : ¬ (8 : Int) < (n : Int) := by omega
      have hcall := some_u64_any t s n w hT (by omega) hreach
      rw [he] at hc1
      clear hr hblk hbs hT he hsz
      go_enter Tryd.func25, Tryd.ntmps25
      go_wp2_with fail
      refine hcall.mono ?_
      rintro e w' ⟨v, rfl, rfl, hgr, hnew⟩
      go_wp2
      go_ret
      exact ⟨_, rfl, rfl, hgr, hnew⟩
  · have hr : tNum s size = (0, s) := by simp [tNum, takeF, he, beVal_nil]
    rw [hr]
    have hcall := some_u64_err t s size w hT he
    have hne : (s.e == 0) = false := by simpa using he
    clear hr hblk hbs he
    generalize s.e = er at *
    go_enter Tryd.func25, Tryd.ntmps25
    go_wp2_with fail
    refine hcall.mono ?_
    rintro e w' ⟨rfl, rfl⟩
    go_wp2
    go_ret
    exact ⟨_, rfl, rfl, grown_below (Below.refl _ _) _, hT⟩

theorem takeF_len (s : TSt) (n : Nat) : (takeF s n).2.l.length ≤ s.l.length := by
  unfold takeF; split
  · exact Nat.le_refl _
  · split
    · exact Nat.le_refl _
    · simp
theorem tNum_len (s : TSt) (size : Int) : (tNum s size).2.l.length ≤ s.l.length := by
  unfold tNum; split
  · exact Nat.le_refl _
  · exact takeF_len _ _
theorem takeF_le (s : TSt) (n : Nat) : (takeF s n).1.length ≤ n := by
  unfold takeF; split
  · simp
  · split
    · simp
    · simp; omega
theorem tNum_lt (s : TSt) (k : Nat) : (tNum s (k : Int)).1 < 256 ^ k := by
  unfold tNum; split
  · exact Nat.pow_pos (by decide)
  · exact Nat.lt_of_lt_of_le (beVal_lt _) (Nat.pow_le_pow_right (by decide) (takeF_le _ _))

end Go.Proofs.YtoaiiiblakgopaaDoor
