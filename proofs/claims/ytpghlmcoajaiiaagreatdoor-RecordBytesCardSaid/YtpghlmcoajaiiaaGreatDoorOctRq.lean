/- The walks of the chapter on numbers and texts as bytes: the reference's taker. -/
import Derived.Test.YtpghlmcoajaiiaaGreatDoorM7
namespace Go.Proofs.YtpghlmcoajaiiaaGreatDoor
open Go.RowKit

/-- The reference's taker stands there, in such a state. -/
def Rt (w : World) (t : Nat) (s : TSt) : Prop := w.heap[t]? = some (.cells #[.string (strOf s.l), .int .i64 s.e] 157 (0, 0))
theorem Rt.lt {w : World} {t : Nat} {s : TSt} (h : Rt w t s) : t < w.heap.size := (Array.getElem?_eq_some_iff.1 h).1
theorem Rt.grown {w w' : World} {t : Nat} {s : TSt} {row : Option Nat} (h : Rt w t s) (hg : w.grownBy w' row) (hne : row ≠ some t) : Rt w' t s := (hg.block t h.lt (fun e => hne e.symm)).trans h
theorem Rt.below {w w' : World} {t : Nat} {s : TSt} {B : Nat} (hB : w.heap.size ≤ B) (hb : Below B w w') (h : Rt w t s) : Rt w' t s := (hb.block t (Nat.lt_of_lt_of_le h.lt hB)).trans h
theorem Rt.drewN {w : World} {t : Nat} {s : TSt} (h : Rt w t s) (n : Nat) : Rt (w.drewN n) t s := h
theorem Rt.drew {w : World} {t : Nat} {s : TSt} (h : Rt w t s) : Rt w.drew t s := h
theorem Tk.drewN {w : World} {t : Nat} {s : TSt} (h : Tk w t s) (n : Nat) : Tk (w.drewN n) t s := h
theorem Tk.drew {w : World} {t : Nat} {s : TSt} (h : Tk w t s) : Tk w.drew t s := h
theorem Rt.err {w : World} {t : Nat} {s : TSt} (h : Rt w t s) : w.cell? ⟨t, 1, none⟩ = some (.int .i64 s.e) := by
  have h' : w.heap[t]? = _ := h
  simp [World.cell?, h']
/-- What turns the one taker leaves the other one. -/
theorem Tk.other {w w' : World} {t r : Nat} {s s' : TSt} (h : Tk w t s) (hr : Rt w r s') (hg : w.grownBy w' (some r)) (hne : r ≠ t) : Tk w' t s :=
  h.grown hg (fun e => hne (by cases e; rfl)) (fun a n m b off h1 h0 ha e => by
    cases e
    obtain ⟨a', cap', g1, g2⟩ := h
    rw [g1] at h1
    cases h1
    obtain ⟨b', off', e1, _, h7⟩ := g2.cell (k := 0) (by omega)
    rw [ha] at e1
    cases e1
    have h8 := h7 0 (by omega)
    have hr' : w.heap[r]? = _ := hr
    simp only [World.cell?, hr', Nat.add_zero] at h8
    match off, h8 with
    | 0, h8 => simp at h8
    | 1, h8 => simp at h8
    | n + 2, h8 => simp at h8)
def RtPost (w : World) (t : Nat) (v : Value) (s' : TSt) (e : Ending) (w' : World) : Prop :=
  e = .returned v ∧ w.grownBy w' (some t) ∧ Rt w' t s'

set_option maxRecDepth 100000 in
set_option maxHeartbeats 1000000 in
theorem rSome_any (t : Nat) (s : TSt) (n : Nat) (w : World) (h : Rt w t s) (hreach : s.l.length ≤ 140737488351232) :
    Calls Tryz.prog 110 #[.pointer (some ⟨t, 0, none⟩), .int .i64 n] w (RtPost w t (.string (strOf (takeF s n).1)) (takeF s n).2) := by
  obtain ⟨l, er⟩ := s
  have hblk : w.heap[t]? = some (.cells #[.string (strOf l), .int .i64 er] 157 (0, 0)) := h
  have hc0 : w.cell? ⟨t, 0, none⟩ = some (.string (strOf l)) := by simp [World.cell?, hblk]
  have hc1 : w.cell? ⟨t, 1, none⟩ = some (.int .i64 er) := by simp [World.cell?, hblk]
  have hf0 : w.frozen? ⟨t, 0, none⟩ = false := by simp [World.frozen?, hblk]
  have hf1 : w.frozen? ⟨t, 1, none⟩ = false := by simp [World.frozen?, hblk]
  have hsz := strOf_size l
  dsimp only at hreach
  by_cases he : er = 0
  · subst he
    by_cases hlt : l.length < n
    · have hts : takeF ⟨l, 0⟩ n = ([], ⟨l, 10⟩) := by simp [takeF, hlt]
      rw [hts]
      have hnew : Rt (w.setCell ⟨t, 1, none⟩ (.int .i64 10)) t ⟨l, 10⟩ := heap_setCell_at 1 (.int .i64 10) hblk
      have hgr := grown_setCell w ⟨t, 1, none⟩ (.int .i64 10)
      clear hts hblk h
      go_enter Tryz.func110, Tryz.ntmps110
      go_wp2
      go_ret
      exact ⟨rfl, hgr, hnew⟩
    · have hts : takeF ⟨l, 0⟩ n = (l.take n, ⟨l.drop n, 0⟩) := by simp [takeF, hlt]
      rw [hts]
      have hx0 : (strOf l).extract 0 n = strOf (l.take n) := by rw [strOf_extract]; simp
      have hx1 : (strOf l).extract n l.length = strOf (l.drop n) := by rw [strOf_extract, List.take_of_length_le (by simp)]
      have hgr := grown_setCell w ⟨t, 0, none⟩ (.string (strOf (l.drop n)))
      have hnew : Rt (w.setCell ⟨t, 0, none⟩ (.string (strOf (l.drop n)))) t ⟨l.drop n, 0⟩ := heap_setCell_at 0 (.string (strOf (l.drop n))) hblk
      clear hts hblk h
      go_enter Tryz.func110, Tryz.ntmps110
      go_wp2
      go_ret
      exact ⟨rfl, hgr, hnew⟩
  · have hts : takeF ⟨l, er⟩ n = ([], ⟨l, er⟩) := by simp [takeF, he]
    rw [hts]
    have hne : (er == 0) = false := by simpa using he
    have hne' : (er != 0) = true := by simpa using he
    clear he hts hblk
    go_enter Tryz.func110, Tryz.ntmps110
    go_wp2
    go_ret
    exact ⟨rfl, grown_below (Below.refl _ _) _, h⟩

set_option maxRecDepth 100000 in
set_option maxHeartbeats 1000000 in
theorem rNum_any (t : Nat) (s : TSt) (size : Int) (w : World) (h : Rt w t s) (hreach : s.l.length ≤ 140737488351232) :
    Calls Tryz.prog 60 #[.pointer (some ⟨t, 0, none⟩), .int .i64 size] w (RtPost w t (.int .u64 ((tNum s size).1 : Int)) (tNum s size).2) := by
  obtain ⟨l, er⟩ := s
  have hblk : w.heap[t]? = some (.cells #[.string (strOf l), .int .i64 er] 157 (0, 0)) := h
  have hc1 : w.cell? ⟨t, 1, none⟩ = some (.int .i64 er) := by simp [World.cell?, hblk]
  have hf1 : w.frozen? ⟨t, 1, none⟩ = false := by simp [World.frozen?, hblk]
  dsimp only at hreach
  by_cases he : er = 0
  · subst he
    by_cases hsz : size < 1 ∨ 8 < size
    · have hr : tNum ⟨l, 0⟩ size = (0, ⟨l, 1⟩) := by simp [tNum, hsz]
      rw [hr]
      have hnew : Rt (w.setCell ⟨t, 1, none⟩ (.int .i64 1)) t ⟨l, 1⟩ := heap_setCell_at 1 (.int .i64 1) hblk
      have hgr := grown_setCell w ⟨t, 1, none⟩ (.int .i64 1)
      clear hr hblk h
      rcases hsz with hsz | hsz
      · go_enter Tryz.func60, Tryz.ntmps60
        go_wp2
        go_ret
        exact ⟨rfl, hgr, hnew⟩
      · have hsz' : ¬ size < 1 := by omega
        go_enter Tryz.func60, Tryz.ntmps60
        go_wp2
        go_ret
        exact ⟨rfl, hgr, hnew⟩
    · obtain ⟨n, rfl⟩ := Int.eq_ofNat_of_zero_le (show 0 ≤ size by omega)
      have hr : tNum ⟨l, 0⟩ (n : Int) = (beVal (takeF ⟨l, 0⟩ n).1, (takeF ⟨l, 0⟩ n).2) := by simp only [tNum]; rw [if_neg (fun h => hsz h.2)]; rfl
      rw [hr]
      have hs1 : ¬ (n : Int) < 1 := by omega
      have hs2 : ¬ (8 : Int) < (n : Int) := by omega
      have hcall := rSome_any t ⟨l, 0⟩ n w h hreach
      have hle := takeF_le ⟨l, 0⟩ n
      obtain ⟨b, s1, hs⟩ : ∃ b s1, takeF ⟨l, 0⟩ n = (b, s1) := ⟨_, _, rfl⟩
      rw [hs] at hcall hle ⊢
      dsimp only at hcall hle ⊢
      clear hr hblk h hsz hs
      have hbs := strOf_size b
      go_enter Tryz.func60, Tryz.ntmps60
      go_wp2_with fail
      refine hcall.mono ?_
      rintro e w1 ⟨rfl, hgr, hnew⟩
      go_wp2
      go_loop [6, 7] (fun x i => ∃ k : Nat, k ≤ b.length ∧ i = .int .i64 k ∧ x = .int .u64 (beVal (b.take k))) (fun _ i => b.length - (intOf i).toNat)
      case atStart => exact ⟨0, Nat.zero_le _, rfl, rfl⟩
      case round =>
        obtain ⟨k, hk, rfl, rfl⟩ := hrel
        by_cases hlt : k < b.length
        · have hst := beVal_step b k hlt
          have hbd : beVal (b.take k) < 72057594037927936 := by
            have h1 := beVal_lt (b.take k)
            have h2 : (b.take k).length ≤ 7 := by simp; omega
            have h3 : 256 ^ (b.take k).length ≤ 256 ^ 7 := Nat.pow_le_pow_right (by decide) h2
            omega
          have hcb : (b[k]?.getD 0).toNat < 256 := (b[k]?.getD 0).toNat_lt
          have hget := strOf_get b k hlt
          generalize b[k]?.getD 0 = x at *
          generalize beVal (b.take k) = y at *
          have H := Lib.hid hst
          clear hst
          go_wp2
          go_round
          case rel => exact ⟨k + 1, by omega, by go_num, by rw [H.out]; go_num⟩
          case measure => simp [intOf]; omega
        · obtain rfl : k = b.length := by omega
          rw [List.take_length]
          go_wp2
          go_ret
          exact ⟨rfl, hgr, hnew⟩
  · have hr : tNum ⟨l, er⟩ size = (0, ⟨l, er⟩) := by simp [tNum, takeF, he, beVal_nil]
    rw [hr]
    have hne : (er == 0) = false := by simpa using he
    have hne' : (er != 0) = true := by simpa using he
    clear he hr hblk
    go_enter Tryz.func60, Tryz.ntmps60
    go_wp2
    go_ret
    exact ⟨rfl, grown_below (Below.refl _ _) _, h⟩

set_option maxRecDepth 100000 in
set_option maxHeartbeats 1000000 in
theorem rText_any (t : Nat) (s : TSt) (w : World) (h : Rt w t s) (hreach : s.l.length ≤ 140737488351232) :
    Calls Tryz.prog 61 #[.pointer (some ⟨t, 0, none⟩)] w (RtPost w t (.string (strOf (tText s).1)) (tText s).2) := by
  have hlt := tNum_lt s 1
  have hlen := tNum_len s 1
  have hcall := rNum_any t s 1 w h hreach
  obtain ⟨n, s1, hs⟩ : ∃ n s1, tNum s 1 = (n, s1) := ⟨_, _, rfl⟩
  have hr : tText s = takeF s1 n := by simp [tText, hs]
  have hs' : tNum s ((1 : Nat) : Int) = (n, s1) := hs
  rw [hs] at hcall hlen
  rw [hs'] at hlt
  rw [hr]
  dsimp only at hlt hlen hcall
  clear hr hs hs'
  go_enter Tryz.func61, Tryz.ntmps61
  go_wp2_with fail
  refine hcall.mono ?_
  rintro e w1 ⟨rfl, hgr, hnew⟩
  go_wp2_with fail
  refine (rSome_any t s1 n w1 hnew (by omega)).mono ?_
  rintro e w2 ⟨rfl, hgr2, hnew2⟩
  go_wp2
  go_ret
  exact ⟨rfl, grown_trans hgr hgr2, hnew2⟩

set_option maxRecDepth 100000 in
set_option maxHeartbeats 1000000 in
theorem rRest_any (t : Nat) (s : TSt) (w : World) (h : Rt w t s) (hreach : s.l.length ≤ 140737488351232) :
    Calls Tryz.prog 182 #[.pointer (some ⟨t, 0, none⟩)] w (RtPost w t (.string (strOf (tRest s).1)) (tRest s).2) := by
  have hcall := rSome_any t s s.l.length w h hreach
  have hblk : w.heap[t]? = some (.cells #[.string (strOf s.l), .int .i64 s.e] 157 (0, 0)) := h
  have hc0 : w.cell? ⟨t, 0, none⟩ = some (.string (strOf s.l)) := by simp [World.cell?, hblk]
  have hsz := strOf_size s.l
  clear hblk
  go_enter Tryz.func182, Tryz.ntmps182
  go_wp2_with fail
  refine hcall.mono ?_
  rintro e w2 ⟨rfl, hgr2, hnew2⟩
  go_wp2
  go_ret
  exact ⟨rfl, hgr2, hnew2⟩

set_option maxRecDepth 100000 in
set_option maxHeartbeats 1000000 in
theorem rDone_any (t : Nat) (s : TSt) (w : World) (h : Rt w t s) :
    Calls Tryz.prog 62 #[.pointer (some ⟨t, 0, none⟩)] w fun e w' => e = .returned (.int .i64 (tDone s)) ∧ w = w' := by
  obtain ⟨l, er⟩ := s
  have hblk : w.heap[t]? = some (.cells #[.string (strOf l), .int .i64 er] 157 (0, 0)) := h
  have hc0 : w.cell? ⟨t, 0, none⟩ = some (.string (strOf l)) := by simp [World.cell?, hblk]
  have hc1 : w.cell? ⟨t, 1, none⟩ = some (.int .i64 er) := by simp [World.cell?, hblk]
  clear hblk h
  by_cases he : er = 0
  · subst he
    by_cases h0 : l = []
    · subst h0
      have hem : (!(strOf []).toList.isEmpty) = false := by rw [strOf_toList]; rfl
      go_enter Tryz.func62, Tryz.ntmps62
      go_wp2
      go_ret
      exact ⟨rfl, rfl⟩
    · have HD := Lib.hid (show tDone ⟨l, 0⟩ = 11 by simp [tDone, h0])
      have hem : (!(strOf l).toList.isEmpty) = true := by rw [strOf_toList]; simp [h0]
      clear h0
      go_enter Tryz.func62, Tryz.ntmps62
      go_wp2
      go_ret
      exact ⟨ret_int HD.out.symm, rfl⟩
  · have HD := Lib.hid (show tDone ⟨l, er⟩ = er by simp [tDone, he])
    have hne : (er == 0) = false := by simpa using he
    clear he
    go_enter Tryz.func62, Tryz.ntmps62
    go_wp2
    go_ret
    exact ⟨ret_int HD.out.symm, rfl⟩
end Go.Proofs.YtpghlmcoajaiiaaGreatDoor
